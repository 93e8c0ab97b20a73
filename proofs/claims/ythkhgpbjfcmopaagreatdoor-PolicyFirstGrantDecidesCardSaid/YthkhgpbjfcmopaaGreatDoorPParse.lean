/-
  Package policy: the deferred function of Parse.
  Package policy: one round of Parse.
  Package policy: Parse: the parts of a text and what the lines make of them; the results.
  Package policy: Parse: how it ends.
  Package policy: Parse: the range over the lines.
  Package policy: Parse.
  Package policy: Parse.
-/
import Derived.Test.YthkhgpbjfcmopaaGreatDoorPPrgM
import Derived.Test.YthkhgpbjfcmopaaGreatDoorAbsOrd
import Derived.RecoverIn
namespace Go.Proofs.YthkhgpbjfcmopaaGreatDoor
open Go Go.RowKit
set_option linter.unusedSimpArgs false
set_option linter.unusedVariables false
set_option linter.unusedSimpArgs false
set_option linter.unusedVariables false
attribute [local go_sem] Oper.semAt_some
set_option maxRecDepth 100000
def kHP : Kn := { pK with H := [24] }
theorem kHP_ok (G : World → Prop) (hst : ∀ w w', G w → Below w.heap.size w w' → G w') : KnOk Tryz.prog G kHP := ⟨pT_ok, pU_ok, .nil, hst, .nil⟩
theorem as_nil (w : World) : (Instr.typeAssert .nilIface 20 100 true).run Tryz.prog w = .ok (.tuple #[.agg #[.int .i64 0, .int .i64 0], .bool false]) w := by kernel_rfl
theorem as_pv (e : Int × Int) (w : World) : (Instr.typeAssert (.iface 100 (.agg #[.int .i64 e.1, .int .i64 e.2])) 20 100 true).run Tryz.prog w = .ok (.tuple #[.agg #[.int .i64 e.1, .int .i64 e.2], .bool true]) w := by kernel_rfl
set_option maxHeartbeats 2000000 in
theorem parse1_idle (g2 g3 g4 : Nat) (w : World) : CallsDIn Fence.wide 0 Tryz.prog 61 #[.pointer (some ⟨g2, 0, none⟩), .pointer (some ⟨g3, 0, none⟩), .pointer (some ⟨g4, 0, none⟩)] .returning w fun e u' w' =>
    (∃ v, e = .returned v) ∧ u' = .returning ∧ Below w.heap.size w w' := by
  refine callsDIn_of_wpSIn Tryz.func61 rfl trivial fun c₀ cs hu => ?_
  apply wpSIn_seq
  apply wpSIn_region
  simp [wpOpsSIn, go_sem, recoverD, hu, Tryz.ntmps61, Exit.thenS, as_nil]
  apply wpSIn_seq
  apply wpSIn_region
  simp [wpOpsSIn, go_sem, Exit.thenS]
  refine wpSIn_cond (t := false) (by simp [Act.eval]) ?_
  simp only [Bool.false_eq_true, if_false]
  refine wpSIn_of_wpIn rfl (wpIn_skip ?_)
  cases c₀
  simp_all [bodyPostS, results, Tryz.f61]
  exact below_alloc _ _
/-- the blocks of the four variables -/
def fixP (g2 g3 g4 g5 : Nat) (i : Nat) : Nat := if i = 0 then g2 else if i = 1 then g3 else if i = 2 then g4 else g5
def sP1 (u2 : Value) (x3 x4 : Int) (e : Int × Int) : AS := ⟨[(0, ⟨.hptr, (0, 0)⟩), (1, ⟨.optr i64, ⟨1, i64, .here⟩⟩), (2, ⟨.optr i64, ⟨2, i64, .here⟩⟩), (3, ⟨.optr fl, ⟨3, fl, .here⟩⟩)], [(0, some (.hbox [⟨.lit, u2⟩])), (1, some (.box i64 x3)), (2, some (.box i64 x4)), (3, some (.box fl (e.1, e.2, ())))], 4⟩
def sP2 (e : Int × Int) : AS := ⟨[], [(0, some (.hbox [⟨.lit, .slice none 0 0⟩])), (1, some (.box i64 e.1)), (2, some (.box i64 e.2))], 4⟩
def reg2 : Code → Code
  | .seq _ (.seq _ (.cond _ c _)) => c
  | c => c
set_option maxHeartbeats 4000000 in
theorem parse1_awp {w1 : World} {X : Ownr} (hX : X.Ok w1) (hG : ∀ w w', X.G w → Below w.heap.size w w' → X.G w') (hK : X.K = 4) (u2 : Value) (x3 x4 : Int) (e : Int × Int) : AWP Tryz.prog w1 X 16 (reg2 (Tryz.f61.body.getD .skip)) (sP1 u2 x3 x4 e) (fun en σ => en = .normal ∧ Fit σ (sP2 e)) := by
  unfold sP1
  refine AWP.orders (σ' := sP2 e) dM hX (kHP_ok _ hG) 8 rfl (by kernel_rfl) [[0, 1, 2, 3, 4, 5, 6, 7], [0, 1, 2, 3, 5, 4, 6, 7], [0, 1, 2, 3, 5, 6, 4, 7], [0, 1, 2, 5, 3, 4, 6, 7], [0, 1, 2, 5, 3, 6, 4, 7], [0, 1, 2, 5, 6, 3, 4, 7], [0, 1, 3, 2, 4, 5, 6, 7], [0, 1, 3, 2, 5, 4, 6, 7], [0, 1, 3, 2, 5, 6, 4, 7], [0, 1, 3, 4, 2, 5, 6, 7], [0, 1, 3, 4, 5, 2, 6, 7], [0, 1, 3, 5, 2, 4, 6, 7], [0, 1, 3, 5, 2, 6, 4, 7], [0, 1, 3, 5, 4, 2, 6, 7], [0, 1, 5, 2, 3, 4, 6, 7], [0, 1, 5, 2, 3, 6, 4, 7], [0, 1, 5, 2, 6, 3, 4, 7], [0, 1, 5, 3, 2, 4, 6, 7], [0, 1, 5, 3, 2, 6, 4, 7], [0, 1, 5, 3, 4, 2, 6, 7], [0, 3, 1, 2, 4, 5, 6, 7], [0, 3, 1, 2, 5, 4, 6, 7], [0, 3, 1, 2, 5, 6, 4, 7], [0, 3, 1, 4, 2, 5, 6, 7], [0, 3, 1, 4, 5, 2, 6, 7], [0, 3, 1, 5, 2, 4, 6, 7], [0, 3, 1, 5, 2, 6, 4, 7], [0, 3, 1, 5, 4, 2, 6, 7], [0, 3, 4, 1, 2, 5, 6, 7], [0, 3, 4, 1, 5, 2, 6, 7], [0, 3, 4, 5, 1, 2, 6, 7], [0, 3, 5, 1, 2, 4, 6, 7], [0, 3, 5, 1, 2, 6, 4, 7], [0, 3, 5, 1, 4, 2, 6, 7], [0, 3, 5, 4, 1, 2, 6, 7], [0, 5, 1, 2, 3, 4, 6, 7], [0, 5, 1, 2, 3, 6, 4, 7], [0, 5, 1, 2, 6, 3, 4, 7], [0, 5, 1, 3, 2, 4, 6, 7], [0, 5, 1, 3, 2, 6, 4, 7], [0, 5, 1, 3, 4, 2, 6, 7], [0, 5, 3, 1, 2, 4, 6, 7], [0, 5, 3, 1, 2, 6, 4, 7], [0, 5, 3, 1, 4, 2, 6, 7], [0, 5, 3, 4, 1, 2, 6, 7], [1, 0, 2, 3, 4, 5, 6, 7], [1, 0, 2, 3, 5, 4, 6, 7], [1, 0, 2, 3, 5, 6, 4, 7], [1, 0, 2, 5, 3, 4, 6, 7], [1, 0, 2, 5, 3, 6, 4, 7], [1, 0, 2, 5, 6, 3, 4, 7], [1, 0, 3, 2, 4, 5, 6, 7], [1, 0, 3, 2, 5, 4, 6, 7], [1, 0, 3, 2, 5, 6, 4, 7], [1, 0, 3, 4, 2, 5, 6, 7], [1, 0, 3, 4, 5, 2, 6, 7], [1, 0, 3, 5, 2, 4, 6, 7], [1, 0, 3, 5, 2, 6, 4, 7], [1, 0, 3, 5, 4, 2, 6, 7], [1, 0, 5, 2, 3, 4, 6, 7], [1, 0, 5, 2, 3, 6, 4, 7], [1, 0, 5, 2, 6, 3, 4, 7], [1, 0, 5, 3, 2, 4, 6, 7], [1, 0, 5, 3, 2, 6, 4, 7], [1, 0, 5, 3, 4, 2, 6, 7], [1, 2, 0, 3, 4, 5, 6, 7], [1, 2, 0, 3, 5, 4, 6, 7], [1, 2, 0, 3, 5, 6, 4, 7], [1, 2, 0, 5, 3, 4, 6, 7], [1, 2, 0, 5, 3, 6, 4, 7], [1, 2, 0, 5, 6, 3, 4, 7], [1, 2, 3, 0, 4, 5, 6, 7], [1, 2, 3, 0, 5, 4, 6, 7], [1, 2, 3, 0, 5, 6, 4, 7], [1, 2, 3, 4, 0, 5, 6, 7], [1, 3, 0, 2, 4, 5, 6, 7], [1, 3, 0, 2, 5, 4, 6, 7], [1, 3, 0, 2, 5, 6, 4, 7], [1, 3, 0, 4, 2, 5, 6, 7], [1, 3, 0, 4, 5, 2, 6, 7], [1, 3, 0, 5, 2, 4, 6, 7], [1, 3, 0, 5, 2, 6, 4, 7], [1, 3, 0, 5, 4, 2, 6, 7], [1, 3, 2, 0, 4, 5, 6, 7], [1, 3, 2, 0, 5, 4, 6, 7], [1, 3, 2, 0, 5, 6, 4, 7], [1, 3, 2, 4, 0, 5, 6, 7], [1, 3, 4, 0, 2, 5, 6, 7], [1, 3, 4, 0, 5, 2, 6, 7], [1, 3, 4, 2, 0, 5, 6, 7], [3, 0, 1, 2, 4, 5, 6, 7], [3, 0, 1, 2, 5, 4, 6, 7], [3, 0, 1, 2, 5, 6, 4, 7], [3, 0, 1, 4, 2, 5, 6, 7], [3, 0, 1, 4, 5, 2, 6, 7], [3, 0, 1, 5, 2, 4, 6, 7], [3, 0, 1, 5, 2, 6, 4, 7], [3, 0, 1, 5, 4, 2, 6, 7], [3, 0, 4, 1, 2, 5, 6, 7], [3, 0, 4, 1, 5, 2, 6, 7], [3, 0, 4, 5, 1, 2, 6, 7], [3, 0, 5, 1, 2, 4, 6, 7], [3, 0, 5, 1, 2, 6, 4, 7], [3, 0, 5, 1, 4, 2, 6, 7], [3, 0, 5, 4, 1, 2, 6, 7], [3, 1, 0, 2, 4, 5, 6, 7], [3, 1, 0, 2, 5, 4, 6, 7], [3, 1, 0, 2, 5, 6, 4, 7], [3, 1, 0, 4, 2, 5, 6, 7], [3, 1, 0, 4, 5, 2, 6, 7], [3, 1, 0, 5, 2, 4, 6, 7], [3, 1, 0, 5, 2, 6, 4, 7], [3, 1, 0, 5, 4, 2, 6, 7], [3, 1, 2, 0, 4, 5, 6, 7], [3, 1, 2, 0, 5, 4, 6, 7], [3, 1, 2, 0, 5, 6, 4, 7], [3, 1, 2, 4, 0, 5, 6, 7], [3, 1, 4, 0, 2, 5, 6, 7], [3, 1, 4, 0, 5, 2, 6, 7], [3, 1, 4, 2, 0, 5, 6, 7], [3, 4, 0, 1, 2, 5, 6, 7], [3, 4, 0, 1, 5, 2, 6, 7], [3, 4, 0, 5, 1, 2, 6, 7], [3, 4, 1, 0, 2, 5, 6, 7], [3, 4, 1, 0, 5, 2, 6, 7], [3, 4, 1, 2, 0, 5, 6, 7]] rfl ?_ ⟨rfl, trivial, ⟨rfl, rfl, rfl, trivial⟩, rfl, rfl⟩ rfl (Nat.le_of_eq hK)
  unfold sP2
  repeat (first | exact AllL.nil | (refine AllL.cons (LinOk.mk rfl trivial ?_) ?_; · exact ⟨trivial, ⟨rfl, rfl, rfl, trivial⟩, rfl, rfl⟩))
set_option maxHeartbeats 600000 in
theorem parse1_pan (g2 g3 g4 : Nat) (e : Int × Int) (u2 : Value) (x3 x4 : Int) (t2 t3 t4 : TypeId) (w : World) (hu2 : u2.oneCell' = true) (h2 : w.heap[g2]? = some (.cells #[u2] t2 (0, 0))) (h3 : w.heap[g3]? = some (.cells #[.int .i64 x3] t3 (0, 0))) (h4 : w.heap[g4]? = some (.cells #[.int .i64 x4] t4 (0, 0))) (hne : g2 ≠ g3 ∧ g2 ≠ g4 ∧ g3 ≠ g4) :
    CallsDIn Fence.wide 0 Tryz.prog 61 #[.pointer (some ⟨g2, 0, none⟩), .pointer (some ⟨g3, 0, none⟩), .pointer (some ⟨g4, 0, none⟩)] (.panicking [{ v := pv e, recovered := false }]) w fun en u' w' =>
    (∃ v, en = .returned v) ∧ u' = .panicking [{ v := pv e, recovered := true }] ∧ Kept (fun g => g = g2 ∨ g = g3 ∨ g = g4) w w' ∧ ∃ t2 t3 t4, w'.heap[g2]? = some (.cells #[.slice none 0 0] t2 (0, 0)) ∧ w'.heap[g3]? = some (.cells #[.int .i64 e.1] t3 (0, 0)) ∧ w'.heap[g4]? = some (.cells #[.int .i64 e.2] t4 (0, 0)) := by
  refine callsDIn_of_wpSIn Tryz.func61 rfl trivial fun c₀ cs hu => ?_
  apply wpSIn_seq
  apply wpSIn_region
  simp [wpOpsSIn, go_sem, recoverD, hu, Tryz.ntmps61, Exit.thenS, pv, as_pv]
  apply wpSIn_seq
  apply wpSIn_region
  simp [wpOpsSIn, go_sem, Exit.thenS]
  refine wpSIn_cond (t := true) (by simp [Act.eval]) ?_
  simp only [if_true]
  refine wpSIn_of_wpIn rfl ?_
  have hl2 := (Array.getElem?_eq_some_iff.1 h2).1
  have hl3 := (Array.getElem?_eq_some_iff.1 h3).1
  have hl4 := (Array.getElem?_eq_some_iff.1 h4).1
  have hbA : Below w.heap.size w (w.alloc (.cells #[.int .i64 e.1, .int .i64 e.2] 100)) := below_alloc _ _
  have h5 : (w.alloc (.cells #[.int .i64 e.1, .int .i64 e.2] 100)).heap[w.heap.size]? = some (.cells #[.int .i64 e.1, .int .i64 e.2] 100 (0, 0)) := World.alloc_heap_new _ _
  replace h2 := (hbA.block _ hl2).trans h2
  replace h3 := (hbA.block _ hl3).trans h3
  replace h4 := (hbA.block _ hl4).trans h4
  generalize w.alloc (.cells #[.int .i64 e.1, .int .i64 e.2] 100) = w1 at *
  let X : Ownr := { G := fun _ => True, X := fun _ => False, K := 4, fix := fixP g2 g3 g4 w.heap.size }
  have hR : ∀ g, X.R g → g = g2 ∨ g = g3 ∨ g = g4 ∨ g = w.heap.size := by
    rintro g ⟨i, hi, rfl⟩
    have hi : i < 4 := hi
    rcases (show i = 0 ∨ i = 1 ∨ i = 2 ∨ i = 3 by omega) with rfl | rfl | rfl | rfl
    · exact .inl rfl
    · exact .inr (.inl rfl)
    · exact .inr (.inr (.inl rfl))
    · exact .inr (.inr (.inr rfl))
  have hX : X.Ok w1 := by
    refine ⟨fun g h => h.elim, fun g h => ?_, fun _ _ => trivial⟩
    have := (Array.getElem?_eq_some_iff.1 h5).1
    have := hbA.size
    rcases hR g h with rfl | rfl | rfl | rfl <;> omega
  let β : Nat → Value := fun i => .pointer (some ⟨X.fix i, 0, none⟩)
  have hsim : ∀ a : Act, a.tmps.size = 16 → a.defers = [] → a.tmps.getD 0 undef = .pointer (some ⟨g2, 0, none⟩) → a.tmps.getD 1 undef = .pointer (some ⟨g3, 0, none⟩) → a.tmps.getD 2 undef = .pointer (some ⟨g4, 0, none⟩) → a.tmps.getD 3 undef = .pointer (some ⟨w.heap.size, 0, none⟩) →
      Sim w1 X 16 (sP1 u2 x3 x4 e) β a w1 := fun a hsz hdf e0 e1 e2 e3 => by
    refine Sim.boxes (X := X) hsz hdf (fun i _ => rfl) ?_ ?_ ?_ rfl
    · intro i j hi hj hij
      have hi : i < 4 := hi
      have hj : j < 4 := hj
      have hij : fixP g2 g3 g4 w.heap.size i = fixP g2 g3 g4 w.heap.size j := hij
      unfold fixP at hij
      rcases (show i = 0 ∨ i = 1 ∨ i = 2 ∨ i = 3 by omega) with rfl | rfl | rfl | rfl <;> rcases (show j = 0 ∨ j = 1 ∨ j = 2 ∨ j = 3 by omega) with rfl | rfl | rfl | rfl <;> first | rfl | (exfalso; simp at hij; omega)
    · intro i o h
      rw [Owns.get_cons] at h
      split at h
      · rename_i hi; subst hi; cases h
        exact ⟨by show 0 < 4; omega, rfl, ⟨g2, [u2], _, rfl, Nat.zero_le _, h2, u2, [], rfl, hu2, rfl, rfl⟩, fun vs e v hv => by cases e; rw [List.mem_singleton] at hv; subst hv; exact Nat.zero_le _⟩
      rw [Owns.get_cons] at h
      split at h
      · rename_i _ hi; subst hi; cases h
        exact ⟨by show 1 < 4; omega, rfl, ⟨g3, [_], _, rfl, Nat.zero_le _, h3, rfl⟩, fun vs e => by cases e⟩
      rw [Owns.get_cons] at h
      split at h
      · rename_i _ _ hi; subst hi; cases h
        exact ⟨by show 2 < 4; omega, rfl, ⟨g4, [_], _, rfl, Nat.zero_le _, h4, rfl⟩, fun vs e => by cases e⟩
      rw [Owns.get_cons] at h
      split at h
      · rename_i _ _ _ hi; subst hi; cases h
        exact ⟨by show 3 < 4; omega, rfl, ⟨w.heap.size, [.int .i64 e.1, .int .i64 e.2], _, rfl, Nat.zero_le _, h5, [.int .i64 e.1], [.int .i64 e.2], rfl, rfl, [.int .i64 e.2], [], rfl, rfl, rfl⟩, fun vs e => by cases e⟩
      · cases h
    · refine rep_cons ⟨g2, rfl, e0⟩ (rep_cons ⟨g3, rfl, e1⟩ (rep_cons ⟨g4, rfl, e2⟩ (rep_cons ⟨w.heap.size, rfl, e3⟩ rep_nil)))
  refine Go.wpIn_mono (parse1_awp hX (fun _ _ _ _ => trivial) rfl u2 x3 x4 e β _ w1 (hsim _ ?_ ?_ ?_ ?_ ?_ ?_)) ?_
  · simp
  · rfl
  · simp [Array.getD_eq_getD_getElem?, Array.getElem?_append]
  · simp [Array.getD_eq_getD_getElem?, Array.getElem?_append]
  · simp [Array.getD_eq_getD_getElem?, Array.getElem?_append]
  · simp [Array.getD_eq_getD_getElem?, Array.getElem?_append]
  · rintro en a' w' ⟨σ', β', h1, rfl, hf⟩
    have h6 := h1.fit hf (Nat.le_refl _)
    have hblk : ∀ i, i < 4 → blockOf (β' i) = some (fixP g2 g3 g4 w.heap.size i) := fun i hi => (h6.fix.2 i hi).1
    obtain ⟨k2, c2, y2, q1, _, q2, q3⟩ := h6.own 0 _ rfl
    obtain ⟨k3, c3, y3, q4, _, q5, q6⟩ := h6.own 1 _ rfl
    obtain ⟨k4, c4, y4, q7, _, q8, q9⟩ := h6.own 2 _ rfl
    have e0 := hblk 0 (by omega)
    have e1 := hblk 1 (by omega)
    have e2 := hblk 2 (by omega)
    rw [q1] at e0
    rw [q4] at e1
    rw [q7] at e2
    have f0 : k2 = g2 := by simpa [blockOf, fixP] using e0
    have f1 : k3 = g3 := by simpa [blockOf, fixP] using e1
    have f2 : k4 = g4 := by simpa [blockOf, fixP] using e2
    subst f0; subst f1; subst f2
    obtain ⟨u, r, rfl, _, hu, hr⟩ := q3
    have hu : u = .slice none 0 0 := hu
    have hr : r = [] := hr
    subst hu; subst hr
    have q6 : c3 = [.int .i64 e.1] := q6
    have q9 : c4 = [.int .i64 e.2] := q9
    subst q6; subst q9
    refine ⟨h6.df, _, rfl, _, results_none rfl _ _ _, ⟨_, rfl⟩, rfl, ⟨h6.bel.os.trans hbA.os, h6.bel.tape.trans hbA.tape, h6.bel.output.trans hbA.output, Nat.le_trans hbA.size h6.bel.size, fun k hk hn => (h6.bel.block k (Nat.lt_of_lt_of_le hk hbA.size) fun hr => ?_).trans (hbA.block k hk)⟩, ⟨_, q2⟩, ⟨_, q5⟩, ⟨_, q8⟩⟩
    rcases hR k hr with h | h | h | h
    · exact hn (.inl h)
    · exact hn (.inr (.inl h))
    · exact hn (.inr (.inr h))
    · omega
end Go.Proofs.YthkhgpbjfcmopaaGreatDoor
namespace Go.Proofs.YthkhgpbjfcmopaaGreatDoor
open Go Go.RowKit
set_option linter.unusedSimpArgs false
set_option linter.unusedVariables false
set_option linter.unusedSimpArgs false
set_option linter.unusedVariables false
set_option maxRecDepth 100000
/-- what one line does to the grants so far -/
def stepP (y : List UInt8) (i : Nat) (acc : List Gt) : Except (Int × Int) (List Gt) :=
  if (splitS y i).length = 1 then .ok acc else if acc.length = 64 then .error (hdA (splitS y i), 2) else match grantW (splitS y i) with
    | .error e => .error e
    | .ok g => .ok (acc ++ [g.1])
def sPE (i : Nat) (acc : List Gt) : Owns := [(0, some (.hbox [⟨.obuf gr, (4 : Nat)⟩])), (1, some (.box i64 (0 : Int))), (2, some (.box i64 (0 : Int))), (3, some (.box i64 (i : Int))), (4, some (.buf 49 gr acc))]
def sPF (y : List UInt8) : List (Nat × V) := [(2, ⟨.hptr, (0, 0)⟩), (3, ⟨.optr i64, ⟨1, i64, .here⟩⟩), (4, ⟨.optr i64, ⟨2, i64, .here⟩⟩), (5, ⟨.optr i64, ⟨3, i64, .here⟩⟩), (6, ⟨.str, y⟩)]
abbrev XP (O : Nat → Prop) (fix : Nat → Nat) (D : List Deferred) (ρ : Option Nat) : Ownr := { G := pH, X := O, K := 4, fix := fix, D := D, ρ := ρ }
def findR : Code → Option (Code × Code)
  | .rangeFunc _ _ a b => some (a, b)
  | .seq x y => match findR x with
    | some r => some r
    | none => findR y
  | .block _ c => findR c
  | _ => none
noncomputable def pBody : Code := match findR (Tryz.f30.body.getD .skip) with
  | some r => r.2
  | none => .skip
def kHS : Kn := { pK with C := [(63, cSplit)], H := [24] }
theorem kHS_ok : KnOk Tryz.prog pH kHS := ⟨pT_ok, pU_ok, .cons split_ok.lift .nil, pH_st, .nil⟩
def roundEnd (e : Exit) (σ : AS) (i : Nat) (acc : List Gt) : Except (Int × Int) (List Gt) → Prop
  | .ok acc' => e = .normal ∧ Fit σ ⟨[], sPE i acc', 5⟩
  | .error er => e = .panic [{ v := pv er, recovered := false }] ∧ Fit σ ⟨[], sPE i acc, 5⟩
def sPW (ws : List Wd) (j : Nat) (acc : List Gt) : AS := ⟨[(2, ⟨.hptr, (0, 0)⟩), (3, ⟨.optr i64, ⟨1, i64, .here⟩⟩), (4, ⟨.optr i64, ⟨2, i64, .here⟩⟩), (5, ⟨.optr i64, ⟨3, i64, .here⟩⟩), (7, ⟨.slice wd, ws⟩)], sPE j acc, 5⟩
def sPR (ws : List Wd) (j : Nat) (acc : List Gt) : AS := ⟨[(2, ⟨.hptr, (0, 0)⟩), (8, ⟨.optr rd, ⟨5, rd, .here⟩⟩)], [(0, some (.hbox [⟨.obuf gr, (4 : Nat)⟩])), (1, some (.box i64 (0 : Int))), (2, some (.box i64 (0 : Int))), (3, some (.box i64 (j : Int))), (4, some (.buf 49 gr acc)), (5, some (.box rd (ws, ())))], 6⟩
theorem boxI {x y : Int} (h : x = y) : some (OObj.box i64 x) = some (OObj.box i64 y) := by rw [h]
set_option maxHeartbeats 600000 in
theorem pround_awp {B : World} {O : Nat → Prop} {fix : Nat → Nat} {ρ : Option Nat} (hX : (XP O fix [] ρ).Ok B) (hN : ∀ w g, (B.heap.size ≤ g ∨ (XP O fix [] ρ).R g) → pH w → pN w g) (y : List UInt8) (i : Nat) (acc : List Gt) (hy : y.length ≤ 4000) (hi : i ≤ 5000) (hacc : acc.length ≤ 64) (hw : WW (splitS y i)) :
    AWP Tryz.prog B (XP O fix [] ρ) 42 pBody ⟨sPF y, sPE i acc, 5⟩ (fun e σ => roundEnd e σ (i + y.length + 1) acc (stepP y i acc)) := by
  unfold sPF sPE
  refine AWP.block ?_
  have n0 : (0 : Int) ≤ (i : Int) := by omega
  (repeat (first | refine AWP.seq ?_ | refine AWP.skip ?_ | refine AWP.block ?_ | refine AWP.exit ?_)); refine AWP.region hX kHS_ok rfl ?_ ?_
  · exact ⟨by show y.length ≤ 100000; omega, n0, by show (i : Int) ≤ 100000; omega⟩
  (repeat (first | refine AWP.seq ?_ | refine AWP.skip ?_ | refine AWP.block ?_ | refine AWP.exit ?_)); refine AWP.region hX kHS_ok rfl ?_ ?_
  · exact ⟨inR_small (by show _ ≤ ((y.length : Nat) : Int) + 1; omega) (by show ((y.length : Nat) : Int) + 1 ≤ _; omega), inR_small (by show _ ≤ (i : Int) + (((y.length : Nat) : Int) + 1); omega) (by show (i : Int) + (((y.length : Nat) : Int) + 1) ≤ _; omega)⟩
  have hend : (i : Int) + (((y.length : Nat) : Int) + 1) = ((i + y.length + 1 : Nat) : Int) := by omega
  refine AWP.fit (σ' := sPW (splitS y i) (i + y.length + 1) acc) ⟨⟨rfl, rfl, rfl, rfl, rfl, trivial⟩, ⟨rfl, rfl, rfl, boxI hend, rfl, trivial⟩, rfl, rfl⟩ ?_
  unfold stepP
  generalize splitS y i = ws at hw ⊢
  generalize i + y.length + 1 = j
  have hwp := hw.pos
  have htest : decide (((ws.length : Nat) : Int) = 1) = decide (ws.length = 1) := by
    by_cases h : ws.length = 1
    · rw [decide_eq_true h, decide_eq_true (by omega)]
    · rw [decide_eq_false h, decide_eq_false (by omega)]
  unfold sPW sPE
  (repeat (first | refine AWP.seq ?_ | refine AWP.skip ?_ | refine AWP.label ?_ | refine AWP.exit ?_ | refine AWP.block ?_ | refine AWP.region hX kHS_ok rfl trivial ?_ | refine AWP.region hX kHS_ok rfl id ?_ | refine AWP.region hX kHS_ok rfl ⟨id, id⟩ ?_))
  refine AWP.cond rfl (fun hb => ?_) (fun hb => ?_)
  · have hb : decide (((ws.length : Nat) : Int) = 1) = true := hb
    rw [htest] at hb
    rw [if_pos (of_decide_eq_true hb)]
    (repeat (first | refine AWP.seq ?_ | refine AWP.skip ?_ | refine AWP.label ?_ | refine AWP.exit ?_ | refine AWP.block ?_ | refine AWP.region hX kHS_ok rfl trivial ?_ | refine AWP.region hX kHS_ok rfl id ?_ | refine AWP.region hX kHS_ok rfl ⟨id, id⟩ ?_))
    exact ⟨rfl, trivial, ⟨rfl, rfl, rfl, rfl, rfl, trivial⟩, rfl, rfl⟩
  have hb : decide (((ws.length : Nat) : Int) = 1) = false := hb
  rw [htest] at hb
  rw [if_neg (of_decide_eq_false hb)]
  (repeat (first | refine AWP.seq ?_ | refine AWP.skip ?_ | refine AWP.label ?_ | refine AWP.exit ?_ | refine AWP.block ?_ | refine AWP.region hX kHS_ok rfl trivial ?_ | refine AWP.region hX kHS_ok rfl id ?_ | refine AWP.region hX kHS_ok rfl ⟨id, id⟩ ?_))
  refine AWP.cond rfl (fun hb => ?_) (fun hb => ?_)
  · have hb : decide (((acc.length : Nat) : Int) = 64) = true := hb
    have hb := of_decide_eq_true hb
    rw [if_pos (by omega)]
    (repeat (first | refine AWP.seq ?_ | refine AWP.skip ?_ | refine AWP.block ?_ | refine AWP.exit ?_)); refine AWP.list ?_
    refine AL.pcall hX fail_ok (c := cFailP) (x := (ws, ())) (xs := ((2 : Int), ())) rfl rfl rfl rfl rfl rfl rfl rfl rfl rfl trivial hwp hN (F' := fun _ => _) (fun _ => rfl) ?_
    exact fun x' => ⟨rfl, trivial, ⟨rfl, rfl, rfl, rfl, rfl, trivial⟩, rfl, rfl⟩
  have hb : decide (((acc.length : Nat) : Int) = 64) = false := hb
  have hb := of_decide_eq_false hb
  rw [if_neg (by omega)]
  have hcap : acc.length + 1 ≤ 1000000000 := by omega
  (repeat (first | refine AWP.seq ?_ | refine AWP.skip ?_ | refine AWP.block ?_ | refine AWP.exit ?_)); refine AWP.fit (σ' := sPR ws j acc) ⟨⟨rfl, rfl, trivial⟩, ⟨rfl, rfl, rfl, rfl, rfl, rfl, trivial⟩, rfl, rfl⟩ ?_
  unfold sPR
  cases hg : grantW ws with
  | error er =>
    have hout : cGrantP.out (ws, ()) () = .error (pv er) := congrArg (toV _) hg
    simp only
    refine AWP.ordersA dM 7 rfl (by kernel_rfl) ?_
    refine OrdA.step [0, 2] rfl ?_
    refine AllN.cons ⟨_, rfl, StepA.eval hX kHS_ok rfl trivial ?_⟩ ?_
    · skip
      refine OrdA.step [1, 2] rfl ?_
      refine AllN.cons ⟨_, rfl, StepA.eval hX kHS_ok rfl trivial ?_⟩ ?_
      · skip
        refine OrdA.step [2] rfl ?_
        refine AllN.cons ⟨_, rfl, ?_⟩ ?_
        · refine StepA.hand rfl (fun β a w hs => pcall_wp hX grant_ok (c := cGrantP) (x := (ws, ())) (xs := ()) rfl rfl rfl rfl rfl rfl rfl rfl rfl (by exact trivial) hw hN (F' := fun _ => _) (fun _ => rfl) (N := _) ?_ β a w hs)
          rw [hout]
          exact fun x' => ⟨rfl, trivial, ⟨rfl, rfl, rfl, rfl, rfl, trivial⟩, rfl, rfl⟩
        exact AllN.nil
      refine AllN.cons ⟨_, rfl, ?_⟩ ?_
      · refine StepA.hand rfl (fun β a w hs => pcall_wp hX grant_ok (c := cGrantP) (x := (ws, ())) (xs := ()) rfl rfl rfl rfl rfl rfl rfl rfl rfl (by exact trivial) hw hN (F' := fun _ => _) (fun _ => rfl) (N := _) ?_ β a w hs)
        rw [hout]
        exact fun x' => ⟨rfl, trivial, ⟨rfl, rfl, rfl, rfl, rfl, trivial⟩, rfl, rfl⟩
      exact AllN.nil
    refine AllN.cons ⟨_, rfl, ?_⟩ ?_
    · refine StepA.hand rfl (fun β a w hs => pcall_wp hX grant_ok (c := cGrantP) (x := (ws, ())) (xs := ()) rfl rfl rfl rfl rfl rfl rfl rfl rfl (by exact trivial) hw hN (F' := fun _ => _) (fun _ => rfl) (N := _) ?_ β a w hs)
      rw [hout]
      exact fun x' => ⟨rfl, trivial, ⟨rfl, rfl, rfl, rfl, rfl, trivial⟩, rfl, rfl⟩
    exact AllN.nil
  | ok g =>
    have hout : cGrantP.out (ws, ()) () = .ok (g.1, (g.2, ())) := congrArg (toV _) hg
    simp only
    refine AWP.ordersA dM 7 rfl (by kernel_rfl) ?_
    refine OrdA.step [0, 2] rfl ?_
    refine AllN.cons ⟨_, rfl, StepA.eval hX kHS_ok rfl trivial ?_⟩ ?_
    · skip
      refine OrdA.step [1, 2] rfl ?_
      refine AllN.cons ⟨_, rfl, StepA.eval hX kHS_ok rfl trivial ?_⟩ ?_
      · skip
        refine OrdA.step [2] rfl ?_
        refine AllN.cons ⟨_, rfl, ?_⟩ ?_
        · refine StepA.hand rfl (fun β a w hs => pcall_wp hX grant_ok (c := cGrantP) (x := (ws, ())) (xs := ()) rfl rfl rfl rfl rfl rfl rfl rfl rfl (by exact trivial) hw hN (F' := fun _ => _) (fun _ => rfl) (N := _) ?_ β a w hs)
          rw [hout]
          simp only [PCallN]
          refine OrdA.step [3] rfl ?_
          refine AllN.cons ⟨_, rfl, StepA.eval hX kHS_ok rfl trivial ?_⟩ ?_
          · skip
            refine OrdA.step [4] rfl ?_
            refine AllN.cons ⟨_, rfl, StepA.eval hX kHS_ok rfl hcap ?_⟩ ?_
            · skip
              refine OrdA.step [5] rfl ?_
              refine AllN.cons ⟨_, rfl, StepA.eval hX kHS_ok rfl trivial ?_⟩ ?_
              · skip
                refine OrdA.step [6] rfl ?_
                refine AllN.cons ⟨_, rfl, StepA.eval hX kHS_ok rfl trivial ?_⟩ ?_
                · skip
                  exact OrdA.last ⟨rfl, trivial, ⟨rfl, rfl, rfl, rfl, rfl, trivial⟩, rfl, rfl⟩
                exact AllN.nil
              exact AllN.nil
            exact AllN.nil
          exact AllN.nil
        exact AllN.nil
      refine AllN.cons ⟨_, rfl, ?_⟩ ?_
      · refine StepA.hand rfl (fun β a w hs => pcall_wp hX grant_ok (c := cGrantP) (x := (ws, ())) (xs := ()) rfl rfl rfl rfl rfl rfl rfl rfl rfl (by exact trivial) hw hN (F' := fun _ => _) (fun _ => rfl) (N := _) ?_ β a w hs)
        rw [hout]
        simp only [PCallN]
        refine OrdA.step [1, 3] rfl ?_
        refine AllN.cons ⟨_, rfl, StepA.eval hX kHS_ok rfl trivial ?_⟩ ?_
        · skip
          refine OrdA.step [3] rfl ?_
          refine AllN.cons ⟨_, rfl, StepA.eval hX kHS_ok rfl trivial ?_⟩ ?_
          · skip
            refine OrdA.step [4] rfl ?_
            refine AllN.cons ⟨_, rfl, StepA.eval hX kHS_ok rfl hcap ?_⟩ ?_
            · skip
              refine OrdA.step [5] rfl ?_
              refine AllN.cons ⟨_, rfl, StepA.eval hX kHS_ok rfl trivial ?_⟩ ?_
              · skip
                refine OrdA.step [6] rfl ?_
                refine AllN.cons ⟨_, rfl, StepA.eval hX kHS_ok rfl trivial ?_⟩ ?_
                · skip
                  exact OrdA.last ⟨rfl, trivial, ⟨rfl, rfl, rfl, rfl, rfl, trivial⟩, rfl, rfl⟩
                exact AllN.nil
              exact AllN.nil
            exact AllN.nil
          exact AllN.nil
        refine AllN.cons ⟨_, rfl, StepA.eval hX kHS_ok rfl trivial ?_⟩ ?_
        · skip
          refine OrdA.step [1] rfl ?_
          refine AllN.cons ⟨_, rfl, StepA.eval hX kHS_ok rfl trivial ?_⟩ ?_
          · skip
            refine OrdA.step [4] rfl ?_
            refine AllN.cons ⟨_, rfl, StepA.eval hX kHS_ok rfl hcap ?_⟩ ?_
            · skip
              refine OrdA.step [5] rfl ?_
              refine AllN.cons ⟨_, rfl, StepA.eval hX kHS_ok rfl trivial ?_⟩ ?_
              · skip
                refine OrdA.step [6] rfl ?_
                refine AllN.cons ⟨_, rfl, StepA.eval hX kHS_ok rfl trivial ?_⟩ ?_
                · skip
                  exact OrdA.last ⟨rfl, trivial, ⟨rfl, rfl, rfl, rfl, rfl, trivial⟩, rfl, rfl⟩
                exact AllN.nil
              exact AllN.nil
            exact AllN.nil
          exact AllN.nil
        exact AllN.nil
      exact AllN.nil
    refine AllN.cons ⟨_, rfl, ?_⟩ ?_
    · refine StepA.hand rfl (fun β a w hs => pcall_wp hX grant_ok (c := cGrantP) (x := (ws, ())) (xs := ()) rfl rfl rfl rfl rfl rfl rfl rfl rfl (by exact trivial) hw hN (F' := fun _ => _) (fun _ => rfl) (N := _) ?_ β a w hs)
      rw [hout]
      simp only [PCallN]
      refine OrdA.step [0, 3] rfl ?_
      refine AllN.cons ⟨_, rfl, StepA.eval hX kHS_ok rfl trivial ?_⟩ ?_
      · skip
        refine OrdA.step [1, 3] rfl ?_
        refine AllN.cons ⟨_, rfl, StepA.eval hX kHS_ok rfl trivial ?_⟩ ?_
        · skip
          refine OrdA.step [3] rfl ?_
          refine AllN.cons ⟨_, rfl, StepA.eval hX kHS_ok rfl trivial ?_⟩ ?_
          · skip
            refine OrdA.step [4] rfl ?_
            refine AllN.cons ⟨_, rfl, StepA.eval hX kHS_ok rfl hcap ?_⟩ ?_
            · skip
              refine OrdA.step [5] rfl ?_
              refine AllN.cons ⟨_, rfl, StepA.eval hX kHS_ok rfl trivial ?_⟩ ?_
              · skip
                refine OrdA.step [6] rfl ?_
                refine AllN.cons ⟨_, rfl, StepA.eval hX kHS_ok rfl trivial ?_⟩ ?_
                · skip
                  exact OrdA.last ⟨rfl, trivial, ⟨rfl, rfl, rfl, rfl, rfl, trivial⟩, rfl, rfl⟩
                exact AllN.nil
              exact AllN.nil
            exact AllN.nil
          exact AllN.nil
        refine AllN.cons ⟨_, rfl, StepA.eval hX kHS_ok rfl trivial ?_⟩ ?_
        · skip
          refine OrdA.step [1] rfl ?_
          refine AllN.cons ⟨_, rfl, StepA.eval hX kHS_ok rfl trivial ?_⟩ ?_
          · skip
            refine OrdA.step [4] rfl ?_
            refine AllN.cons ⟨_, rfl, StepA.eval hX kHS_ok rfl hcap ?_⟩ ?_
            · skip
              refine OrdA.step [5] rfl ?_
              refine AllN.cons ⟨_, rfl, StepA.eval hX kHS_ok rfl trivial ?_⟩ ?_
              · skip
                refine OrdA.step [6] rfl ?_
                refine AllN.cons ⟨_, rfl, StepA.eval hX kHS_ok rfl trivial ?_⟩ ?_
                · skip
                  exact OrdA.last ⟨rfl, trivial, ⟨rfl, rfl, rfl, rfl, rfl, trivial⟩, rfl, rfl⟩
                exact AllN.nil
              exact AllN.nil
            exact AllN.nil
          exact AllN.nil
        exact AllN.nil
      refine AllN.cons ⟨_, rfl, StepA.eval hX kHS_ok rfl trivial ?_⟩ ?_
      · skip
        refine OrdA.step [0] rfl ?_
        refine AllN.cons ⟨_, rfl, StepA.eval hX kHS_ok rfl trivial ?_⟩ ?_
        · skip
          refine OrdA.step [1] rfl ?_
          refine AllN.cons ⟨_, rfl, StepA.eval hX kHS_ok rfl trivial ?_⟩ ?_
          · skip
            refine OrdA.step [4] rfl ?_
            refine AllN.cons ⟨_, rfl, StepA.eval hX kHS_ok rfl hcap ?_⟩ ?_
            · skip
              refine OrdA.step [5] rfl ?_
              refine AllN.cons ⟨_, rfl, StepA.eval hX kHS_ok rfl trivial ?_⟩ ?_
              · skip
                refine OrdA.step [6] rfl ?_
                refine AllN.cons ⟨_, rfl, StepA.eval hX kHS_ok rfl trivial ?_⟩ ?_
                · skip
                  exact OrdA.last ⟨rfl, trivial, ⟨rfl, rfl, rfl, rfl, rfl, trivial⟩, rfl, rfl⟩
                exact AllN.nil
              exact AllN.nil
            exact AllN.nil
          exact AllN.nil
        exact AllN.nil
      exact AllN.nil
    exact AllN.nil
end Go.Proofs.YthkhgpbjfcmopaaGreatDoor
namespace Go.Proofs.YthkhgpbjfcmopaaGreatDoor
open Go Go.RowKit
set_option linter.unusedSimpArgs false
set_option linter.unusedVariables false
set_option linter.unusedSimpArgs false
set_option linter.unusedVariables false
set_option maxRecDepth 100000
def total : List (List UInt8) → Nat
  | [] => 0
  | g :: r => g.length + 1 + total r
theorem segF_total : ∀ (s c : List UInt8), total (segF c s) = c.length + s.length + 1
  | [], c => by unfold segF total total; simp
  | x :: r, c => by
    unfold segF
    split
    · rw [total, segF_total r []]; simp; omega
    · rw [segF_total r]; simp; omega
theorem segs_total (s : List UInt8) : total (segs s) = s.length + 1 := by rw [segs, segF_total]; simp
theorem spF_last : ∀ (s : List UInt8) (i : Nat) (c : List UInt8) (out : List Wp), ∃ p j, spF s i c out = p ++ [([], j, ())]
  | [], i, c, out => ⟨_, _, rfl⟩
  | x :: r, i, c, out => by
    unfold spF
    split
    · exact spF_last r _ _ _
    · exact spF_last r _ _ _
theorem flushP_len {N : Nat} {c : List UInt8} {a : Int} {out : List Wp} (ho : ∀ x ∈ out, (wT x).length ≤ N) (hc : c.length ≤ N) : ∀ x ∈ flushP c a out, (wT x).length ≤ N := by
  intro x hx
  unfold flushP at hx
  split at hx
  · exact ho x hx
  · rcases List.mem_append.1 hx with h | h
    · exact ho x h
    · rw [List.mem_singleton] at h
      subst h
      exact hc
theorem spF_len {N : Nat} : ∀ (s : List UInt8) (i : Nat) (c : List UInt8) (out : List Wp), (∀ x ∈ out, (wT x).length ≤ N) → c.length + s.length ≤ N → ∀ x ∈ spF s i c out, (wT x).length ≤ N
  | [], i, c, out, ho, hc, x, hx => by
    rcases List.mem_append.1 (show x ∈ flushP c ((i - c.length : Nat) : Int) out ++ [([], (i : Int), ())] from hx) with h | h
    · exact flushP_len ho (by simpa using hc) x h
    · rw [List.mem_singleton] at h
      subst h
      exact Nat.zero_le _
  | y :: r, i, c, out, ho, hc, x, hx => by
    unfold spF at hx
    rw [List.length_cons] at hc
    split at hx
    · exact spF_len r _ _ _ ho (by rw [List.length_append, List.length_singleton]; omega) x hx
    · exact spF_len r _ _ _ (flushP_len ho (by omega)) (by simp only [List.length_nil]; omega) x hx
theorem splitS_WW {y : List UInt8} {i : Nat} (hy : y.length ≤ 100000) : WW (splitS y i) := by
  obtain ⟨p, j, h⟩ := spF_last y i [] []
  refine ⟨?_, spF_len y i [] [] (fun x hx => by cases hx) (by simpa using hy)⟩
  unfold splitS
  rw [h]
  refine ⟨by simp, ?_⟩
  rw [List.length_append, List.length_singleton, Nat.add_sub_cancel, List.getD_eq_getElem?_getD, List.getElem?_append_right (Nat.le_refl _), Nat.sub_self]
  rfl
/-- one line, and the rest -/
theorem pK0_step (y : List UInt8) (r : List (List UInt8)) (i : Nat) (acc : List Gt) (hacc : acc.length ≤ 64) : pK0 (y :: r) i acc.length acc = match stepP y i acc with
    | .error e => ([], e.1, e.2)
    | .ok acc' => pK0 r (i + y.length + 1) acc'.length acc' := by
  unfold pK0 stepP
  rw [linesOf, keepW]
  split
  · rfl
  · rw [List.singleton_append]
    by_cases hk : acc.length = 64
    · rw [if_pos hk]
      unfold pF
      rw [if_pos hk]
      rfl
    · rw [if_neg hk, pF_cons hk, grantP_W]
      cases grantW (splitS y i) with
      | error e => rfl
      | ok g =>
        simp only
        rw [List.length_append, List.length_singleton]
theorem stepP_le {y : List UInt8} {i : Nat} {acc acc' : List Gt} (hacc : acc.length ≤ 64) (h : stepP y i acc = .ok acc') : acc'.length ≤ 64 := by
  unfold stepP at h
  split at h
  · cases h; exact hacc
  · split at h
    · cases h
    · split at h
      · cases h
      · cases h
        rw [List.length_append, List.length_singleton]
        omega
theorem pK0_nil (i k : Nat) (acc : List Gt) : pK0 [] i k acc = (acc, 0, 0) := rfl
/-- the results, read out of their variables -/
theorem parse_res {tmps : Array Value} {g2 g3 g4 : Nat} {W : World} {u : Value} {x y : Int} {t2 t3 t4 : TypeId} (hu : u.oneCell' = true) (h2 : tmps.getD 2 undef = .pointer (some ⟨g2, 0, none⟩)) (h3 : tmps.getD 3 undef = .pointer (some ⟨g3, 0, none⟩)) (h4 : tmps.getD 4 undef = .pointer (some ⟨g4, 0, none⟩))
    (c2 : W.heap[g2]? = some (.cells #[u] t2 (0, 0))) (c3 : W.heap[g3]? = some (.cells #[.int .i64 x] t3 (0, 0))) (c4 : W.heap[g4]? = some (.cells #[.int .i64 y] t4 (0, 0))) :
    (results Tryz.f30 tmps).run Tryz.prog W = .ok (.tuple #[.agg #[u], .int .i64 x, .int .i64 y]) W := by
  have d2 := (cell_of_blk c2).1
  have d3 := (cell_of_blk c3).1
  have d4 := (cell_of_blk c4).1
  rw [Array.getD_eq_getD_getElem?] at h2 h3 h4
  simp [results, Tryz.f30, go_sem, h2, h3, h4, d2, d3, d4]
theorem res_po {w : World} {O : Nat → Prop} {acc : List Gt} {x y : Int} {u : Value} (hu : RepD w O (.slice gr) acc u) : ResRel w O 0 none (.tup po (.tup i64 (.tup i64 .unit))) ((acc, ()), x, y, ()) (.tuple #[.agg #[u], .int .i64 x, .int .i64 y]) := fun β =>
  ⟨[_, _, _], rfl, _, _, rfl, (RepD.agg rfl).2 ⟨[u], rfl, [u], [], rfl, hu, rfl⟩, _, _, rfl, rfl, _, _, rfl, rfl, rfl⟩
end Go.Proofs.YthkhgpbjfcmopaaGreatDoor
namespace Go.Proofs.YthkhgpbjfcmopaaGreatDoor
open Go Go.RowKit
set_option linter.unusedSimpArgs false
set_option linter.unusedVariables false
set_option linter.unusedSimpArgs false
set_option linter.unusedVariables false
attribute [local go_sem] Oper.semAt_some
set_option maxRecDepth 100000
theorem mkF (fn : Fn) (first cap : Array Value) (w : World) : (Instr.makeFunc fn first cap).run Tryz.prog w = .ok (.func fn first cap) w := rfl
/-- the deferred call -/
def dfn (N : Nat) : Deferred := { target := .fn (.func 61) #[.pointer (some ⟨N, 0, none⟩), .pointer (some ⟨N + 1, 0, none⟩), .pointer (some ⟨N + 1 + 1, 0, none⟩)], args := #[] }
def dco (D : Nat) : Deferred := { target := .collected D, args := #[] }
/-- what Parse says -/
def PEnds (w : World) (O : Nat → Prop) (r : List Gt × Int × Int) (e : Ending) (w' : World) : Prop := ∃ v, e = .returned v ∧ Below w.heap.size w w' ∧ ResRel w' O w.heap.size none (.tup po (.tup i64 (.tup i64 .unit))) ((r.1, ()), r.2.1, r.2.2, ()) v
theorem tail_enter (N : Nat) (w : World) : (invoke (dfn N).target (dfn N).args).run Tryz.prog w = .ok (.enter 61 #[.pointer (some ⟨N, 0, none⟩), .pointer (some ⟨N + 1, 0, none⟩), .pointer (some ⟨N + 1 + 1, 0, none⟩)]) w := by
  have eg := Tryz.call61
  simp [invoke, dfn, go_sem, eg]
section
variable {w W : World} {O O' : Nat → Prop} {tmps : Array Value} {N D : Nat} {u : Value} {x y : Int} {t2 t3 t4 : TypeId}
theorem fin_ret {acc : List Gt} (hN : N = w.heap.size) (hO : ∀ g, O g → O' g) (hD : O' D) (hlt : N + 2 < D) (hbel : Below w.heap.size w W) (hd : W.heap[D]? = some (.deferred (some []))) (hu : u.oneCell' = true) (h2 : tmps.getD 2 undef = .pointer (some ⟨N, 0, none⟩)) (h3 : tmps.getD 3 undef = .pointer (some ⟨N + 1, 0, none⟩)) (h4 : tmps.getD 4 undef = .pointer (some ⟨N + 1 + 1, 0, none⟩))
    (c2 : W.heap[N]? = some (.cells #[u] t2 (0, 0))) (c3 : W.heap[N + 1]? = some (.cells #[.int .i64 x] t3 (0, 0))) (c4 : W.heap[N + 1 + 1]? = some (.cells #[.int .i64 y] t4 (0, 0))) (hr : RepD W O' (.slice gr) acc u) :
    LeavesInM Fence.wide 1 Tryz.prog Tryz.f30 tmps (PEnds w O (acc, x, y)) [dco D, dfn N] .returning W := by
  refine ⟨(by intro h; cases h), .inl ⟨D, _, rfl, run_takeDeferred hd, (by intro h; cases h), .inr ⟨fun _ => Nat.le_refl _, _, _, _, _, rfl, tail_enter N _, fun _ _ => trivial, ?_⟩⟩⟩
  have hk : Kept (fun g => g = D) W (W.putObj D (.deferred none)) := kept_putObj _ rfl
  have hlD := (Array.getElem?_eq_some_iff.1 hd).1
  refine (parse1_idle N (N + 1) (N + 1 + 1) _).mono ?_
  rintro e u' w3 ⟨⟨v, rfl⟩, rfl, hb3⟩
  have hl : ∀ g (o : Obj), W.heap[g]? = some o → g ≠ D → w3.heap[g]? = some o := fun g o hg hne => by
    have h1 := (Array.getElem?_eq_some_iff.1 hg).1
    exact (hb3.block g (Nat.lt_of_lt_of_le h1 hk.size)).trans ((hk.block g h1 hne).trans hg)
  refine ⟨_, parse_res hu h2 h3 h4 (hl _ _ c2 (by omega)) (hl _ _ c3 (by omega)) (hl _ _ c4 (by omega)), _, rfl, ?_, ?_⟩
  · refine ⟨hb3.os.trans (hk.os.trans hbel.os), hb3.tape.trans (hk.tape.trans hbel.tape), hb3.output.trans (hk.output.trans hbel.output), Nat.le_trans hbel.size (Nat.le_trans hk.size hb3.size), fun k hkl => ?_⟩
    have h1 : k < W.heap.size := Nat.lt_of_lt_of_le hkl hbel.size
    exact (hb3.block k (Nat.lt_of_lt_of_le h1 hk.size)).trans ((hk.block k h1 (by omega)).trans (hbel.block k hkl))
  · refine res_po (RepD.keep ⟨Nat.le_trans hk.size hb3.size, fun g hg hn => ?_, fun g _ hg => hO g hg⟩ hr)
    exact (hb3.block g (Nat.lt_of_lt_of_le hg hk.size)).trans (hk.block g hg fun e => hn (e ▸ hD))
theorem fin_pan {e : Int × Int} (hN : N = w.heap.size) (hlt : N + 2 < D) (hbel : Below w.heap.size w W) (hd : W.heap[D]? = some (.deferred (some []))) (hu : u.oneCell' = true) (h2 : tmps.getD 2 undef = .pointer (some ⟨N, 0, none⟩)) (h3 : tmps.getD 3 undef = .pointer (some ⟨N + 1, 0, none⟩)) (h4 : tmps.getD 4 undef = .pointer (some ⟨N + 1 + 1, 0, none⟩))
    (c2 : W.heap[N]? = some (.cells #[u] t2 (0, 0))) (c3 : W.heap[N + 1]? = some (.cells #[.int .i64 x] t3 (0, 0))) (c4 : W.heap[N + 1 + 1]? = some (.cells #[.int .i64 y] t4 (0, 0))) :
    LeavesInM Fence.wide 1 Tryz.prog Tryz.f30 tmps (PEnds w O ([], e.1, e.2)) [dco D, dfn N] (.panicking [{ v := pv e, recovered := false }]) W := by
  refine ⟨(by intro h; cases h), .inl ⟨D, _, rfl, run_takeDeferred hd, (by intro h; cases h), .inr ⟨fun _ => Nat.le_refl _, _, _, _, _, rfl, tail_enter N _, fun _ _ => trivial, ?_⟩⟩⟩
  have hk : Kept (fun g => g = D) W (W.putObj D (.deferred none)) := kept_putObj _ rfl
  have hl : ∀ g (o : Obj), W.heap[g]? = some o → g ≠ D → (W.putObj D (.deferred none)).heap[g]? = some o := fun g o hg hne => (hk.block g (Array.getElem?_eq_some_iff.1 hg).1 hne).trans hg
  refine (parse1_pan N (N + 1) (N + 1 + 1) e u x y t2 t3 t4 _ hu (hl _ _ c2 (by omega)) (hl _ _ c3 (by omega)) (hl _ _ c4 (by omega)) (by omega)).mono ?_
  rintro en u' w3 ⟨⟨v, rfl⟩, rfl, hk3, s2, s3, s4, d2, d3, d4⟩
  refine ⟨_, parse_res rfl h2 h3 h4 d2 d3 d4, _, rfl, ?_, res_po (acc := []) ⟨_, rfl, .inl ⟨rfl, none, 0, rfl, Nat.zero_le _⟩⟩⟩
  refine ⟨hk3.os.trans (hk.os.trans hbel.os), hk3.tape.trans (hk.tape.trans hbel.tape), hk3.output.trans (hk.output.trans hbel.output), Nat.le_trans hbel.size (Nat.le_trans hk.size hk3.size), fun k hkl => ?_⟩
  have h1 : k < W.heap.size := Nat.lt_of_lt_of_le hkl hbel.size
  exact (hk3.block k (Nat.lt_of_lt_of_le h1 hk.size) (by omega)).trans ((hk.block k h1 (by omega)).trans (hbel.block k hkl))
end
noncomputable def pTail : Code := match Tryz.f30.body.getD .skip with
  | .seq _ (.seq _ (.seq _ (.seq _ (.seq _ t)))) => t
  | c => c
def sPT (acc : List Gt) : AS := ⟨[(2, ⟨.hptr, (0, 0)⟩), (3, ⟨.optr i64, ⟨1, i64, .here⟩⟩), (4, ⟨.optr i64, ⟨2, i64, .here⟩⟩)], [(0, some (.hbox [⟨.slice gr, acc⟩])), (1, some (.box i64 (0 : Int))), (2, some (.box i64 (0 : Int)))], 5⟩
theorem ptail_awp {B : World} {O : Nat → Prop} {fix : Nat → Nat} {D : List Deferred} (hX : (XP O fix D none).Ok B) (i : Nat) (acc : List Gt) :
    AWP Tryz.prog B (XP O fix D none) 42 pTail ⟨[(2, ⟨.hptr, (0, 0)⟩), (3, ⟨.optr i64, ⟨1, i64, .here⟩⟩), (4, ⟨.optr i64, ⟨2, i64, .here⟩⟩)], sPE i acc, 5⟩ (fun e σ => e = .ret ∧ Fit σ (sPT acc)) := by
  unfold sPE sPT
  refine AWP.frzL hX 0 0 ?_
  refine AWP.seq ?_
  (repeat (first | refine AWP.seq ?_ | refine AWP.skip ?_ | refine AWP.label ?_ | refine AWP.exit ?_ | refine AWP.block ?_ | refine AWP.region hX kHS_ok rfl trivial ?_ | refine AWP.region hX kHS_ok rfl id ?_ | refine AWP.region hX kHS_ok rfl ⟨id, id⟩ ?_))
  exact AWP.ret ⟨rfl, ⟨rfl, rfl, rfl, trivial⟩, ⟨rfl, rfl, rfl, trivial⟩, rfl, rfl⟩
end Go.Proofs.YthkhgpbjfcmopaaGreatDoor
namespace Go.Proofs.YthkhgpbjfcmopaaGreatDoor
open Go Go.RowKit
set_option linter.unusedSimpArgs false
set_option linter.unusedVariables false
set_option linter.unusedSimpArgs false
set_option linter.unusedVariables false
set_option maxRecDepth 100000
noncomputable def pAsgn : Code := match findR (Tryz.f30.body.getD .skip) with
  | some r => r.1
  | none => .skip
section
variable {B W : World} {X : Ownr} {n : Nat} {σ : AS} {β : Nat → Value} {a : Act}
theorem box_at (h : Sim B X n σ β a W) {i : Nat} (hi : i < X.K) {t : Ty} {x : t.T} (hE : Owns.get σ.E i = some (.box t x)) : ∃ cs ty, W.heap[X.fix i]? = some (.cells (List.toArray cs) ty (0, 0)) ∧ RepC W (OSet X σ.E β) t x cs := by
  obtain ⟨g, cs, ty, q1, _, q2, q3⟩ := h.own i _ hE
  have q4 := (h.fix.2 i hi).1
  rw [q1] at q4
  have q4 : g = X.fix i := by simpa [blockOf] using q4
  subst q4
  exact ⟨cs, ty, q2, q3⟩
theorem hbox_at (h : Sim B X n σ β a W) {i : Nat} (hi : i < X.K) {v : V} (hE : Owns.get σ.E i = some (.hbox [v])) : ∃ u ty, W.heap[X.fix i]? = some (.cells #[u] ty (0, 0)) ∧ u.oneCell' = true ∧ RepV W (OSet X σ.E β) β v.t v.x u := by
  obtain ⟨g, cs, ty, q1, _, q2, u, r, rfl, q5, q6, q7⟩ := h.own i _ hE
  have q7 : r = [] := q7
  subst q7
  have q4 := (h.fix.2 i hi).1
  rw [q1] at q4
  have q4 : g = X.fix i := by simpa [blockOf] using q4
  subst q4
  exact ⟨u, ty, q2, q5, q6⟩
end
/-- the frame of a round -/
def rAct0P (a : Act) (x : Value) : Act := { tmps := ((#[16] : Array Tmp).zip #[x]).foldl (fun t (p, v) => t.setIfInBounds p v) a.tmps, defers := [] }
def rActP (a : Act) (x : Value) : Act := (rAct0P a x).put (some 6) ((rAct0P a x).eval (.tmp 16))
theorem rAct0P_get {a : Act} {x : Value} (hsz : a.tmps.size = 42) (s : Nat) : (rAct0P a x).tmps.getD s undef = if 16 = s then x else a.tmps.getD s undef := by
  have : (rAct0P a x).tmps = a.tmps.setIfInBounds 16 x := by simp [rAct0P]
  rw [this]
  by_cases h : 16 = s
  · subst h
    rw [if_pos rfl]
    simp [Array.getD_eq_getD_getElem?, Array.getElem?_setIfInBounds, hsz]
  · rw [if_neg h]
    simp [Array.getD_eq_getD_getElem?, Array.getElem?_setIfInBounds, h]
theorem rActP_size {a : Act} {x : Value} (hsz : a.tmps.size = 42) : (rActP a x).tmps.size = 42 := by
  rw [rActP, Act.put_size]
  simp [rAct0P, hsz]
theorem rActP_get {a : Act} {x : Value} (hsz : a.tmps.size = 42) (s : Nat) : (rActP a x).tmps.getD s undef = if 6 = s then x else if 16 = s then x else a.tmps.getD s undef := by
  rw [rActP, Act.put_get (by simp [rAct0P, hsz])]
  split
  · show (rAct0P a x).tmps.getD 16 undef = x
    rw [rAct0P_get hsz, if_pos rfl]
  · exact rAct0P_get hsz s
section
variable {w w5 : World} {O : Nat → Prop} {N : Nat} {s : List UInt8} {t0 t1 t2 t3 : TypeId} {a5 : Act}
def pI2 (N D : Nat) (g : Nat) : Prop := itI (N + 4) (N + 5) (N + 6) g ∨ g = D ∨ g = D + 1
def pO (O : Nat → Prop) (N D : Nat) (g : Nat) : Prop := O g ∨ pI2 N D g
def pFix (N : Nat) : Nat → Nat := fixP N (N + 1) (N + 1 + 1) (N + 1 + 1 + 1)
/-- a world to count from -/
def pBB (w5 : World) (N : Nat) (B : World) : Prop := B.heap.size = w5.heap.size + 2 ∧ Kept (pI2 N w5.heap.size) w5 B
theorem pR {N : Nat} {O' : Nat → Prop} {D : List Deferred} {ρ : Option Nat} {g : Nat} (h : (XP O' (pFix N) D ρ).R g) : N ≤ g ∧ g ≤ N + 3 := by
  obtain ⟨i, hi, rfl⟩ := h
  have hi : i < 4 := hi
  show N ≤ pFix N i ∧ pFix N i ≤ N + 3
  rcases (show i = 0 ∨ i = 1 ∨ i = 2 ∨ i = 3 by omega) with rfl | rfl | rfl | rfl <;> simp [pFix, fixP] <;> omega
theorem pBB_below (hN : N = w.heap.size) (hs5 : w5.heap.size = N + 7) (hb5 : Below w.heap.size w w5) {B : World} (h : pBB w5 N B) : Below w.heap.size w B :=
  ⟨h.2.os.trans hb5.os, h.2.tape.trans hb5.tape, h.2.output.trans hb5.output, Nat.le_trans hb5.size h.2.size, fun k hk => (h.2.block k (Nat.lt_of_lt_of_le hk hb5.size) (by unfold pI2 itI; omega)).trans (hb5.block k hk)⟩
theorem pBB_end (hN : N = w.heap.size) (hs5 : w5.heap.size = N + 7) (hb5 : Below w.heap.size w w5) {B W : World} (h : pBB w5 N B) {O' : Nat → Prop} {D : List Deferred} {ρ : Option Nat} (hk : Kept (XP O' (pFix N) D ρ).R B W) : Below w.heap.size w W :=
  have hb := pBB_below hN hs5 hb5 h
  ⟨hk.os.trans hb.os, hk.tape.trans hb.tape, hk.output.trans hb.output, Nat.le_trans hb.size hk.size, fun k hkl => (hk.block k (Nat.lt_of_lt_of_le hkl hb.size) fun hr => by have := (pR hr).1; omega).trans (hb.block k hkl)⟩
theorem pX_ok (hN : N = w.heap.size) (hO : ∀ g, O g → g < w.heap.size) (hG : pH w) (hs5 : w5.heap.size = N + 7) (hb5 : Below w.heap.size w w5) {B : World} (h : pBB w5 N B) (D : List Deferred) (ρ : Option Nat) : (XP (pO O N w5.heap.size) (pFix N) D ρ).Ok B := by
  have hs := h.1
  refine ⟨fun g hg => ?_, fun g hg => ?_, fun w' hk => pH_st _ _ hG (pBB_end hN hs5 hb5 h hk)⟩
  · have hg : O g ∨ (g = N + 4 ∨ g = N + 5 ∨ g = N + 6) ∨ g = w5.heap.size ∨ g = w5.heap.size + 1 := hg
    refine ⟨?_, fun hr => ?_⟩
    · rcases hg with h1 | h1
      · have := hO g h1; omega
      · omega
    · have := pR hr
      rcases hg with h1 | h1
      · have := hO g h1; omega
      · omega
  · have := pR hg
    omega
theorem pX_pN (hN : N = w.heap.size) (hG : pH w) (hs5 : w5.heap.size = N + 7) {B : World} (h : pBB w5 N B) (O' : Nat → Prop) (D : List Deferred) (ρ : Option Nat) : ∀ (w' : World) (g : Nat), (B.heap.size ≤ g ∨ (XP O' (pFix N) D ρ).R g) → pH w' → pN w' g := by
  intro w' g hg _
  have hl := pH_lt hG
  have hs := h.1
  have : N ≤ g := by
    rcases hg with h1 | h1
    · omega
    · exact (pR h1).1
  exact ⟨fun e => hl.1 (by omega), fun e => hl.2 (by omega)⟩
end
end Go.Proofs.YthkhgpbjfcmopaaGreatDoor
namespace Go.Proofs.YthkhgpbjfcmopaaGreatDoor
open Go Go.RowKit
set_option linter.unusedSimpArgs false
set_option linter.unusedVariables false
set_option linter.unusedSimpArgs false
set_option linter.unusedVariables false
attribute [local go_sem] Oper.semAt_some
set_option maxRecDepth 100000
section
variable {w w5 : World} {O : Nat → Prop} {N : Nat} {s : List UInt8} {t0 t1 t2 t3 : TypeId} {a5 : Act}
def nA : Act := { tmps := #[], defers := [] }
/-- the state behind k lines -/
def pJ (w5 : World) (O : Nat → Prop) (N : Nat) (s : List UInt8) (k : Nat) (W : World) : Prop := ∃ (B : World) (β : Nat → Value) (acc : List Gt) (i : Nat), pBB w5 N B ∧ Sim B (XP (pO O N w5.heap.size) (pFix N) [] none) 0 ⟨[], sPE i acc, 5⟩ β nA W ∧ acc.length ≤ 64 ∧ k ≤ (segs s).length ∧ i + total ((segs s).drop k) ≤ s.length + 1 ∧ pK0 ((segs s).drop k) i acc.length acc = parseS s
def pJp (w5 : World) (O : Nat → Prop) (N : Nat) (s : List UInt8) (ch : List PanicEntry) (W : World) : Prop := ∃ (er : Int × Int) (B : World) (β : Nat → Value) (acc : List Gt) (i : Nat), ch = [{ v := pv er, recovered := false }] ∧ parseS s = ([], er.1, er.2) ∧ pBB w5 N B ∧ Sim B (XP (pO O N w5.heap.size) (pFix N) [] none) 0 ⟨[], sPE i acc, 5⟩ β nA W
theorem sim_slots {i : Nat} {acc : List Gt} {B W : World} {O' : Nat → Prop} {D D' : List Deferred} {ρ ρ' : Option Nat} {n : Nat} {σ : AS} {β : Nat → Value} {a a' : Act} (h : Sim B (XP O' (pFix N) D ρ) n σ β a W) (hE : σ.E = sPE i acc) (hnx : σ.nx = 5) {y : List UInt8} (hsz : a'.tmps.size = 42) (hdf : a'.defers = D')
    (e2 : a'.tmps.getD 2 undef = .pointer (some ⟨N, 0, none⟩)) (e3 : a'.tmps.getD 3 undef = .pointer (some ⟨N + 1, 0, none⟩)) (e4 : a'.tmps.getD 4 undef = .pointer (some ⟨N + 1 + 1, 0, none⟩)) (e5 : a'.tmps.getD 5 undef = .pointer (some ⟨N + 1 + 1 + 1, 0, none⟩)) (e6 : a'.tmps.getD 6 undef = .string ⟨y.toArray⟩) (hy : y.length ≤ maxLen) :
    Sim B (XP O' (pFix N) D' ρ') 42 ⟨sPF y, sPE i acc, 5⟩ β a' W := by
  obtain ⟨F, E, nx⟩ := σ
  have hE : E = sPE i acc := hE
  have hnx : nx = 5 := hnx
  subst hE; subst hnx
  have hb := fun k (hk : k < 4) => (h.fix.2 k hk).1
  exact h.act (X' := XP O' (pFix N) D' ρ') rfl rfl rfl hsz hdf (rep_cons ⟨_, hb 0 (by omega), e2⟩ (rep_cons ⟨_, hb 1 (by omega), e3⟩ (rep_cons ⟨_, hb 2 (by omega), e4⟩ (rep_cons ⟨_, hb 3 (by omega), e5⟩ (rep_cons (by rw [e6]; exact ⟨rfl, hy⟩) rep_nil))))) rfl
theorem sim_bare {B W : World} {O' : Nat → Prop} {D : List Deferred} {ρ : Option Nat} {n : Nat} {σ : AS} {β : Nat → Value} {a : Act} (h : Sim B (XP O' (pFix N) D ρ) n σ β a W) {i : Nat} {acc : List Gt} (hf : Fit σ ⟨[], sPE i acc, 5⟩) : Sim B (XP O' (pFix N) [] none) 0 ⟨[], sPE i acc, 5⟩ β nA W :=
  (h.fit hf (by show 4 ≤ 5; omega)).act (X' := XP O' (pFix N) [] none) (a' := nA) rfl rfl rfl rfl rfl (F := []) rep_nil rfl
theorem sameOn_any {B A C : World} {X X' : Ownr} {n n' : Nat} {σ σ' : AS} {β β' : Nat → Value} {a a' : Act} {I : Nat → Prop} (h : Sim B X n σ β a A) (h' : Sim B X' n' σ' β' a' C) (hR : ∀ g, X'.R g → X.R g) (hX : X.Ok B) (hI : ∀ g, I g → X g) : SameOn I B.heap.size A C :=
  ⟨h'.bel.os.trans h.bel.os.symm, h'.bel.tape.trans h.bel.tape.symm, h'.bel.output.trans h.bel.output.symm, h'.bel.size, fun k hk =>
    have hx := hX.1 k (hI k hk)
    (h'.bel.block k hx.1 fun hr => hx.2 (hR k hr)).trans (h.bel.block k hx.1 hx.2).symm⟩
set_option maxHeartbeats 1000000 in
theorem parse_range (hN : N = w.heap.size) (hO : ∀ g, O g → g < w.heap.size) (hG : pH w) (hlen : s.length ≤ 4000) (hs5 : w5.heap.size = N + 7) (hb5 : Below w.heap.size w w5)
    (b0 : w5.heap[N]? = some (.cells #[.slice none 0 0] t0 (0, 0))) (b1 : w5.heap[N + 1]? = some (.cells #[.int .i64 0] t1 (0, 0))) (b2 : w5.heap[N + 1 + 1]? = some (.cells #[.int .i64 0] t2 (0, 0))) (b3 : w5.heap[N + 1 + 1 + 1]? = some (.cells #[.int .i64 0] t3 (0, 0)))
    (i0 : w5.heap[N + 4]? = some (.cells #[.string ⟨s.toArray⟩] 9 (0, 0))) (i1 : w5.heap[N + 5]? = some (.cells #[.string ⟨#[10]⟩] 9 (0, 0))) (i2 : w5.heap[N + 6]? = some (.cells #[.int .i64 0] 3 (0, 0)))
    (hsz : a5.tmps.size = 42) (e2 : a5.tmps.getD 2 undef = .pointer (some ⟨N, 0, none⟩)) (e3 : a5.tmps.getD 3 undef = .pointer (some ⟨N + 1, 0, none⟩)) (e4 : a5.tmps.getD 4 undef = .pointer (some ⟨N + 1 + 1, 0, none⟩)) (e5 : a5.tmps.getD 5 undef = .pointer (some ⟨N + 1 + 1 + 1, 0, none⟩))
    (e15 : a5.eval (.tmp 15) = .func (.func 111) #[] #[.pointer (some ⟨N + 5, 0, none⟩), .pointer (some ⟨N + 4, 0, none⟩), .pointer (some ⟨N + 6, 0, none⟩)]) (hdf : a5.defers = [dfn N]) :
    wpFor Tryz.prog 30 (.rangeFunc (.tmp 15) #[16] pAsgn pBody) (fun e a w' => (e = .normal ∨ ∃ ch, e = .panic ch) ∧ Exit.then (wpFor Tryz.prog 30 pTail (bodyPostM Fence.wide 1 Tryz.prog Tryz.f30 (PEnds w O (parseS s)))) (bodyPostM Fence.wide 1 Tryz.prog Tryz.f30 (PEnds w O (parseS s))) e a w') a5 w5 := by
  have hP : parseS s = pK0 (segs s) 0 0 [] := by rw [parseS_eq, if_neg (by omega)]
  have hXok : ∀ B D ρ, pBB w5 N B → (XP (pO O N w5.heap.size) (pFix N) D ρ).Ok B := fun B D ρ h => pX_ok hN hO hG hs5 hb5 h D ρ
  have hsame : ∀ {B A C : World} {ρ ρ' : Option Nat} {D D' : List Deferred} {n n' : Nat} {σ σ' : AS} {β β' : Nat → Value} {a a' : Act}, pBB w5 N B → Sim B (XP (pO O N w5.heap.size) (pFix N) D ρ) n σ β a A → Sim B (XP (pO O N w5.heap.size) (pFix N) D' ρ') n' σ' β' a' C → SameOn (pI2 N w5.heap.size) (w5.heap.size + 2) A C := fun hBB h h' => by
    have := sameOn_any h h' (fun g hr => hr) (hXok _ _ _ hBB) (I := pI2 N w5.heap.size) (fun g hg => .inr hg)
    rwa [hBB.1] at this
  refine wpFor_rangePan (m := 1) ⟨_, Tryz.func30⟩ e15 Tryz.call111 (splitIt_seq (N + 4) (N + 5) (N + 6) s w5 (by omega) (by omega) i0 i1 i2) (Below.refl _ _) ?_ (pJ w5 O N s) (pJp w5 O N s) ?_ ?_ (rActP a5) ?_ ?_ ?_ ?_
  · intro k hk
    have hk : k = N + 4 ∨ k = N + 5 ∨ k = N + 6 := hk
    omega
  · rintro k A C ⟨B, β, acc, i, hBB, hS, h1, h2, h3, h4⟩ hk
    obtain ⟨B', hs', hk', hS'⟩ := hS.outside (hXok _ _ _ hBB) (I := pI2 N w5.heap.size) (fun g hg => .inr hg) hk
    exact ⟨B', β, acc, i, ⟨hs'.trans hBB.1, hBB.2.trans hk'⟩, hS', h1, h2, h3, h4⟩
  · intro W1 hb hs1
    have hBB : pBB w5 N W1 := ⟨hs1, ⟨hb.os, hb.tape, hb.output, hb.size, fun k hk _ => hb.block k hk⟩⟩
    have hl : ∀ g (o : Obj), w5.heap[g]? = some o → W1.heap[g]? = some o := fun g o hg => (hb.block g (Array.getElem?_eq_some_iff.1 hg).1).trans hg
    let β : Nat → Value := fun i => .pointer (some ⟨pFix N i, 0, none⟩)
    have hS0 : Sim W1 (XP (pO O N w5.heap.size) (pFix N) [] none) 0 ⟨[], [(0, some (.hbox [⟨.lit, .slice none 0 0⟩])), (1, some (.box i64 (0 : Int))), (2, some (.box i64 (0 : Int))), (3, some (.box i64 (0 : Int)))], 4⟩ β nA W1 := by
      refine Sim.boxes (X := XP (pO O N w5.heap.size) (pFix N) [] none) rfl rfl (fun i _ => rfl) ?_ ?_ rep_nil rfl
      · intro i j hi hj hij
        have hi : i < 4 := hi
        have hj : j < 4 := hj
        have hij : pFix N i = pFix N j := hij
        unfold pFix fixP at hij
        rcases (show i = 0 ∨ i = 1 ∨ i = 2 ∨ i = 3 by omega) with rfl | rfl | rfl | rfl <;> rcases (show j = 0 ∨ j = 1 ∨ j = 2 ∨ j = 3 by omega) with rfl | rfl | rfl | rfl <;> first | rfl | (exfalso; simp at hij; done) | (exfalso; simp at hij; omega)
      · intro i o h
        rw [Owns.get_cons] at h
        split at h
        · rename_i hi; subst hi; cases h
          exact ⟨by show 0 < 4; omega, rfl, ⟨N, [_], _, rfl, Nat.zero_le _, hl _ _ b0, _, [], rfl, rfl, rfl, rfl⟩, fun vs e v hv => by cases e; rw [List.mem_singleton] at hv; subst hv; exact Nat.zero_le _⟩
        rw [Owns.get_cons] at h
        split at h
        · rename_i _ hi; subst hi; cases h
          exact ⟨by show 1 < 4; omega, rfl, ⟨N + 1, [_], _, rfl, Nat.zero_le _, hl _ _ b1, rfl⟩, fun vs e => by cases e⟩
        rw [Owns.get_cons] at h
        split at h
        · rename_i _ _ hi; subst hi; cases h
          exact ⟨by show 2 < 4; omega, rfl, ⟨N + 1 + 1, [_], _, rfl, Nat.zero_le _, hl _ _ b2, rfl⟩, fun vs e => by cases e⟩
        rw [Owns.get_cons] at h
        split at h
        · rename_i _ _ _ hi; subst hi; cases h
          exact ⟨by show 3 < 4; omega, rfl, ⟨N + 1 + 1 + 1, [_], _, rfl, Nat.zero_le _, hl _ _ b3, rfl⟩, fun vs e => by cases e⟩
        · cases h
    obtain ⟨β', hβ1, hβ2, hS1⟩ := hS0.growNil 49 gr (by decide)
    have hS2 := hS1.leaf (i := 0) (k := 0) (vs := [⟨.lit, .slice none 0 0⟩]) (v' := ⟨.obuf gr, (4 : Nat)⟩) rfl rfl (fun u hu => by
      have hu : u = .slice none 0 0 := hu
      show u = β' 4
      rw [hu]
      exact hβ2.symm) (Nat.le_refl _)
    refine ⟨W1, β', [], 0, hBB, sim_bare hS2 ⟨trivial, ⟨rfl, rfl, rfl, rfl, rfl, trivial⟩, rfl, rfl⟩, by simp, Nat.zero_le _, ?_, hP.symm⟩
    rw [List.drop_zero, segs_total]
    omega
  · intro l x W K hK
    refine wpIn_region_list ?_
    exact wpListIn_move (ρ := some l) (.inr rfl) rfl hK
  · rintro l k y W ⟨B, β, acc, i, hBB, hS, h1, h2, h3, h4⟩ hy hsz2
    obtain ⟨hkl, hyk⟩ := List.getElem?_eq_some_iff.1 hy
    have hd : (segs s).drop k = y :: (segs s).drop (k + 1) := by rw [← hyk]; exact List.drop_eq_getElem_cons hkl
    rw [hd, total] at h3
    rw [hd, pK0_step y _ i acc h1] at h4
    have hsim := sim_slots hS rfl rfl (ρ' := some l) (D' := []) (a' := rActP a5 (.string ⟨y.toArray⟩)) (y := y) (rActP_size hsz) rfl (by rw [rActP_get hsz]; exact e2) (by rw [rActP_get hsz]; exact e3) (by rw [rActP_get hsz]; exact e4) (by rw [rActP_get hsz]; exact e5) (by rw [rActP_get hsz]; rfl) (by unfold maxLen; omega)
    refine Go.wpIn_mono (pround_awp (hXok B [] (some l) hBB) (pX_pN hN hG hs5 hBB _ _ _) y i acc (by omega) (by omega) h1 (splitS_WW (by omega)) β _ W hsim) ?_
    rintro e a' W' ⟨σ', β', h', hR⟩
    have hso := hsame hBB hS h'
    cases hst : stepP y i acc with
    | error er =>
      rw [hst] at hR h4
      obtain ⟨rfl, hf⟩ := hR
      exact .inr ⟨_, rfl, h'.df, ⟨er, B, β', acc, i + y.length + 1, rfl, h4.symm, hBB, sim_bare h' hf⟩, hso⟩
    | ok acc' =>
      rw [hst] at hR h4
      obtain ⟨rfl, hf⟩ := hR
      exact .inl ⟨rfl, ⟨B, β', acc', i + y.length + 1, hBB, sim_bare h' hf, stepP_le h1 hst, hkl, by omega, h4⟩, hso⟩
  · rintro W ⟨B, β, acc, i, hBB, hS, h1, h2, h3, h4⟩ hdef
    refine ⟨.inl rfl, ?_⟩
    rw [List.drop_length, pK0_nil] at h4
    have hb := fun k (hk : k < 4) => (hS.fix.2 k hk).1
    have hsim := hS.act (X' := XP (pO O N w5.heap.size) (pFix N) [dco w5.heap.size, dfn N] none) (m := 42) (a' := { a5 with defers := { target := .collected w5.heap.size, args := #[] } :: a5.defers }) rfl rfl rfl hsz (by rw [hdf]; rfl) (F := [(2, ⟨.hptr, (0, 0)⟩), (3, ⟨.optr i64, ⟨1, i64, .here⟩⟩), (4, ⟨.optr i64, ⟨2, i64, .here⟩⟩)]) (rep_cons ⟨_, hb 0 (by omega), e2⟩ (rep_cons ⟨_, hb 1 (by omega), e3⟩ (rep_cons ⟨_, hb 2 (by omega), e4⟩ rep_nil))) rfl
    refine wpFor_of (m := 0) (Go.wpIn_mono (ptail_awp (hXok _ _ _ hBB) i acc β _ W hsim) ?_)
    rintro e a' W' ⟨σ', β', h', rfl, hf⟩
    have h6 := h'.fit hf (by show 4 ≤ 5; omega)
    have hso := hsame hBB hS h6
    obtain ⟨u, y0, q0, q1, hu⟩ := hbox_at h6 (i := 0) (by show 0 < 4; omega) rfl
    obtain ⟨c1, y1, q2, q3⟩ := box_at h6 (i := 1) (by show 1 < 4; omega) rfl
    obtain ⟨c2, y2, q4, q5⟩ := box_at h6 (i := 2) (by show 2 < 4; omega) rfl
    have q3 : c1 = [.int .i64 0] := q3
    have q5 : c2 = [.int .i64 0] := q5
    subst q3; subst q5
    have hb6 := fun k (hk : k < 4) => (h6.fix.2 k hk).1
    have k2 : a'.tmps.getD 2 undef = .pointer (some ⟨N, 0, none⟩) := by
      obtain ⟨g, r1, r2⟩ : ∃ g, blockOf (β' 0) = some g ∧ a'.tmps.getD 2 undef = .pointer (some ⟨g, 0, none⟩) := h6.fr 2
      rw [hb6 0 (by omega)] at r1
      cases r1
      exact r2
    have k3 : a'.tmps.getD 3 undef = .pointer (some ⟨N + 1, 0, none⟩) := by
      obtain ⟨g, r1, r2⟩ : ∃ g, blockOf (β' 1) = some g ∧ a'.tmps.getD 3 undef = .pointer (some ⟨g, 0, none⟩) := h6.fr 3
      rw [hb6 1 (by omega)] at r1
      cases r1
      exact r2
    have k4 : a'.tmps.getD 4 undef = .pointer (some ⟨N + 1 + 1, 0, none⟩) := by
      obtain ⟨g, r1, r2⟩ : ∃ g, blockOf (β' 2) = some g ∧ a'.tmps.getD 4 undef = .pointer (some ⟨g, 0, none⟩) := h6.fr 4
      rw [hb6 2 (by omega)] at r1
      cases r1
      exact r2
    show LeavesInM Fence.wide 1 Tryz.prog Tryz.f30 a'.tmps (PEnds w O (parseS s)) a'.defers .returning W'
    rw [h6.df, ← h4]
    exact fin_ret hN (O' := OSet (XP (pO O N w5.heap.size) (pFix N) [dco w5.heap.size, dfn N] none) (sPT acc).E β') (fun g hg => .inl (.inl hg)) (.inl (.inr (.inr (.inl rfl)))) (by omega) (pBB_end hN hs5 hb5 hBB h6.bel) ((hso.block _ (.inr (.inl rfl))).trans hdef) q1 k2 k3 k4 q0 q2 q4 hu
  · rintro ch W ⟨er, B, β, acc, i, rfl, hpe, hBB, hS⟩ hdef
    refine ⟨.inr ⟨_, rfl⟩, ?_⟩
    obtain ⟨u, y0, q0, q1, _⟩ := hbox_at hS (i := 0) (by show 0 < 4; omega) rfl
    obtain ⟨c1, y1, q2, q3⟩ := box_at hS (i := 1) (by show 1 < 4; omega) rfl
    obtain ⟨c2, y2, q4, q5⟩ := box_at hS (i := 2) (by show 2 < 4; omega) rfl
    have q3 : c1 = [.int .i64 0] := q3
    have q5 : c2 = [.int .i64 0] := q5
    subst q3; subst q5
    show LeavesInM Fence.wide 1 Tryz.prog Tryz.f30 a5.tmps (PEnds w O (parseS s)) (dco w5.heap.size :: a5.defers) (.panicking _) W
    rw [hdf, hpe]
    exact fin_pan hN (by omega) (pBB_end hN hs5 hb5 hBB hS.bel) hdef q1 e2 e3 e4 q0 q2 q4
end
end Go.Proofs.YthkhgpbjfcmopaaGreatDoor
namespace Go.Proofs.YthkhgpbjfcmopaaGreatDoor
open Go Go.RowKit
set_option linter.unusedSimpArgs false
set_option linter.unusedVariables false
set_option linter.unusedSimpArgs false
set_option linter.unusedVariables false
attribute [local go_sem] Oper.semAt_some
set_option maxRecDepth 100000
theorem alloc_old {w : World} (o : Obj) {k : Nat} {x : Obj} (h : w.heap[k]? = some x) : (w.alloc o).heap[k]? = some x := ((below_alloc w o).block _ (Array.getElem?_eq_some_iff.1 h).1).trans h
theorem alloc_at {w : World} (o : Obj) {k : Nat} (h : w.heap.size = k) : (w.alloc o).heap[k]? = some o := by subst h; exact World.alloc_heap_new _ _
theorem four_alloc (w : World) (o1 o2 o3 : Obj) : Below w.heap.size w (((w.alloc o1).alloc o2).alloc o3) := ((((Below.refl _ w).alloc (Nat.le_refl _) _).alloc (by simp) _).alloc (by simp; omega) _)
set_option maxHeartbeats 1000000 in
theorem parse_ok : CtrOk Tryz.prog pH 30 cRParse := by
  refine ⟨Tryz.call30, fun w O xs vs hO hr hp hG => ?_⟩
  obtain ⟨(s : List UInt8), _⟩ := xs
  obtain ⟨v1, r1, rfl, e1, rfl⟩ := hr
  have e1 : [v1] = [Value.string ⟨s.toArray⟩] ∧ s.length ≤ maxLen := e1
  obtain ⟨e1, hmax⟩ := e1
  cases e1
  refine callsIn_wide.1 (calls_of_wpFor (m := 1) Tryz.func30 rfl ?_)
  simp only [Tryz.ntmps30, List.size_toArray, List.length_cons, List.length_nil, Nat.reduceAdd, Nat.reduceSub, Array.replicate_succ, Array.replicate_zero, List.push_toArray, List.append_toArray, List.nil_append, List.cons_append]
  change wpFor _ _ _ (bodyPostM Fence.wide 1 Tryz.prog Tryz.f30 (PEnds w O (parseS s))) _ _
  generalize hQ : bodyPostM Fence.wide 1 Tryz.prog Tryz.f30 _ = Q
  have hmf := mkF
  refine wpFor_seq (wpFor_of (m := 1) ?_)
  gi_wp2
  refine wpFor_seq (wpFor_of (m := 1) ?_)
  gi_wp2
  · rename_i hlong
    have hP : parseS s = ([], 0, 2) := if_pos (by omega)
    rw [← hQ, hP]
    refine ⟨_, parse_res (g2 := w.heap.size) (g3 := w.heap.size + 1) (g4 := w.heap.size + 1 + 1) (u := .slice none 0 0) (x := 0) (y := 2) (t2 := 24) (t3 := 3) (t4 := 39) rfl rfl rfl rfl ?_ ?_ ?_, _, rfl, four_alloc _ _ _ _, res_po (acc := []) ⟨_, rfl, .inl ⟨rfl, none, 0, rfl, Nat.zero_le _⟩⟩⟩
    · exact alloc_old _ (alloc_old _ (alloc_at _ rfl))
    · exact alloc_old _ (alloc_at _ (by simp))
    · exact alloc_at _ (by simp)
  rename_i hshort
  have hlen : s.length ≤ 4000 := by omega
  refine wpFor_seq (wpFor_of (m := 1) ?_)
  gi_wp2
  refine wpFor_seq (wpFor_of (m := 1) ?_)
  gi_wp2
  refine wpFor_seq (wpFor_seq (wpFor_of (m := 1) ?_))
  gi_wp2
  refine ⟨trivial, (callsIn_wide.2 (splitSeq_call _ _ _)).mono ?_⟩
  rintro e w' ⟨rfl, rfl⟩
  gi_wp2
  refine wpFor_block ?_
  obtain ⟨w4, hw4⟩ : ∃ w4 : World, w4 = ((((w.alloc (.cells #[.slice none 0 0] 24)).alloc (.cells #[.int .i64 0] 3)).alloc (.cells #[.int .i64 0] 39)).alloc (.cells #[.int .i64 0] 3)) := ⟨_, rfl⟩
  rw [← hw4, ← hQ]
  have hs4 : w4.heap.size = w.heap.size + 4 := by rw [hw4]; simp
  have hb4 : Below w.heap.size w w4 := by rw [hw4]; exact (four_alloc _ _ _ _).trans ((below_alloc _ _).mono (four_alloc w _ _ _).size)
  have b0 : w4.heap[w.heap.size]? = some (.cells #[.slice none 0 0] 24 (0, 0)) := by rw [hw4]; exact alloc_old _ (alloc_old _ (alloc_old _ (alloc_at _ rfl)))
  have b1 : w4.heap[w.heap.size + 1]? = some (.cells #[.int .i64 0] 3 (0, 0)) := by rw [hw4]; exact alloc_old _ (alloc_old _ (alloc_at _ (by simp)))
  have b2 : w4.heap[w.heap.size + 1 + 1]? = some (.cells #[.int .i64 0] 39 (0, 0)) := by rw [hw4]; exact alloc_old _ (alloc_at _ (by simp))
  have b3 : w4.heap[w.heap.size + 1 + 1 + 1]? = some (.cells #[.int .i64 0] 3 (0, 0)) := by rw [hw4]; exact alloc_at _ (by simp)
  have hb5 : Below w.heap.size w (itW w4 ⟨s.toArray⟩ ⟨#[10]⟩) := hb4.trans ((four_alloc w4 _ _ _).mono hb4.size)
  have i0 : (itW w4 ⟨s.toArray⟩ ⟨#[10]⟩).heap[w.heap.size + 4]? = some (.cells #[.string ⟨s.toArray⟩] 9 (0, 0)) := alloc_old _ (alloc_old _ (alloc_at _ hs4))
  have i1 : (itW w4 ⟨s.toArray⟩ ⟨#[10]⟩).heap[w.heap.size + 5]? = some (.cells #[.string ⟨#[10]⟩] 9 (0, 0)) := alloc_old _ (alloc_at _ (by simp [hs4]))
  have i2 : (itW w4 ⟨s.toArray⟩ ⟨#[10]⟩).heap[w.heap.size + 6]? = some (.cells #[.int .i64 0] 3 (0, 0)) := alloc_at _ (by simp [hs4])
  have hs5 : (itW w4 ⟨s.toArray⟩ ⟨#[10]⟩).heap.size = w.heap.size + 7 := by simp [itW, hs4]
  have hit : itV w4 = .func (.func 111) #[] #[.pointer (some ⟨w.heap.size + 5, 0, none⟩), .pointer (some ⟨w.heap.size + 4, 0, none⟩), .pointer (some ⟨w.heap.size + 6, 0, none⟩)] := by unfold itV; rw [hs4]
  have hl : ∀ g (o : Obj), w4.heap[g]? = some o → (itW w4 ⟨s.toArray⟩ ⟨#[10]⟩).heap[g]? = some o := fun g o hg => alloc_old _ (alloc_old _ (alloc_old _ hg))
  exact parse_range rfl hO hG hlen hs5 hb5 (hl _ _ b0) (hl _ _ b1) (hl _ _ b2) (hl _ _ b3) i0 i1 i2 rfl rfl rfl rfl rfl hit rfl
end Go.Proofs.YthkhgpbjfcmopaaGreatDoor
