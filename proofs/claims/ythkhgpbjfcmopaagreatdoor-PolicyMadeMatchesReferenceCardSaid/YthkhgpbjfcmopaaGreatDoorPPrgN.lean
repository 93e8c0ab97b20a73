/-
  Package policy: the deferred function of Parse.
-/
import Derived.Test.YthkhgpbjfcmopaaGreatDoorPPrgM
import Derived.Test.YthkhgpbjfcmopaaGreatDoorAbsOrd
import Derived.RecoverIn
namespace Go.Proofs.YthkhgpbjfcmopaaGreatDoor
open Go Go.RowKit
set_option linter.unusedSimpArgs false
set_option linter.unusedVariables false
set_option linter.unusedSimpArgs false
set_option linter.unusedVariables false
attribute [local go_sem] Oper.semAt_some
set_option maxRecDepth 100000
def kHP : Kn := { pK with H := [24] }
theorem kHP_ok (G : World → Prop) (hst : ∀ w w', G w → Below w.heap.size w w' → G w') : KnOk Tryz.prog G kHP := ⟨pT_ok, pU_ok, .nil, hst, .nil⟩
theorem as_nil (w : World) : (Instr.typeAssert .nilIface 20 100 true).run Tryz.prog w = .ok (.tuple #[.agg #[.int .i64 0, .int .i64 0], .bool false]) w := by kernel_rfl
theorem as_pv (e : Int × Int) (w : World) : (Instr.typeAssert (.iface 100 (.agg #[.int .i64 e.1, .int .i64 e.2])) 20 100 true).run Tryz.prog w = .ok (.tuple #[.agg #[.int .i64 e.1, .int .i64 e.2], .bool true]) w := by kernel_rfl
set_option maxHeartbeats 2000000 in
theorem parse1_idle (g2 g3 g4 : Nat) (w : World) : CallsDIn Fence.wide 0 Tryz.prog 61 #[.pointer (some ⟨g2, 0, none⟩), .pointer (some ⟨g3, 0, none⟩), .pointer (some ⟨g4, 0, none⟩)] .returning w fun e u' w' =>
    (∃ v, e = .returned v) ∧ u' = .returning ∧ Below w.heap.size w w' := by
  refine callsDIn_of_wpSIn Tryz.func61 rfl trivial fun c₀ cs hu => ?_
  apply wpSIn_seq
  apply wpSIn_region
  simp [wpOpsSIn, go_sem, recoverD, hu, Tryz.ntmps61, Exit.thenS, as_nil]
  apply wpSIn_seq
  apply wpSIn_region
  simp [wpOpsSIn, go_sem, Exit.thenS]
  refine wpSIn_cond (t := false) (by simp [Act.eval]) ?_
  simp only [Bool.false_eq_true, if_false]
  refine wpSIn_of_wpIn rfl (wpIn_skip ?_)
  cases c₀
  simp_all [bodyPostS, results, Tryz.f61]
  exact below_alloc _ _
/-- the blocks of the four variables -/
def fixP (g2 g3 g4 g5 : Nat) (i : Nat) : Nat := if i = 0 then g2 else if i = 1 then g3 else if i = 2 then g4 else g5
def sP1 (u2 : Value) (x3 x4 : Int) (e : Int × Int) : AS := ⟨[(0, ⟨.hptr, (0, 0)⟩), (1, ⟨.optr i64, ⟨1, i64, .here⟩⟩), (2, ⟨.optr i64, ⟨2, i64, .here⟩⟩), (3, ⟨.optr fl, ⟨3, fl, .here⟩⟩)], [(0, some (.hbox [⟨.lit, u2⟩])), (1, some (.box i64 x3)), (2, some (.box i64 x4)), (3, some (.box fl (e.1, e.2, ())))], 4⟩
def sP2 (e : Int × Int) : AS := ⟨[], [(0, some (.hbox [⟨.lit, .slice none 0 0⟩])), (1, some (.box i64 e.1)), (2, some (.box i64 e.2))], 4⟩
def reg2 : Code → Code
  | .seq _ (.seq _ (.cond _ c _)) => c
  | c => c
set_option maxHeartbeats 4000000 in
theorem parse1_awp {w1 : World} {X : Ownr} (hX : X.Ok w1) (hG : ∀ w w', X.G w → Below w.heap.size w w' → X.G w') (hK : X.K = 4) (u2 : Value) (x3 x4 : Int) (e : Int × Int) : AWP Tryz.prog w1 X 16 (reg2 (Tryz.f61.body.getD .skip)) (sP1 u2 x3 x4 e) (fun en σ => en = .normal ∧ Fit σ (sP2 e)) := by
  unfold sP1
  refine AWP.orders (σ' := sP2 e) dM hX (kHP_ok _ hG) 8 rfl (by kernel_rfl) [[0, 1, 2, 3, 4, 5, 6, 7], [0, 1, 2, 3, 5, 4, 6, 7], [0, 1, 2, 3, 5, 6, 4, 7], [0, 1, 2, 5, 3, 4, 6, 7], [0, 1, 2, 5, 3, 6, 4, 7], [0, 1, 2, 5, 6, 3, 4, 7], [0, 1, 3, 2, 4, 5, 6, 7], [0, 1, 3, 2, 5, 4, 6, 7], [0, 1, 3, 2, 5, 6, 4, 7], [0, 1, 3, 4, 2, 5, 6, 7], [0, 1, 3, 4, 5, 2, 6, 7], [0, 1, 3, 5, 2, 4, 6, 7], [0, 1, 3, 5, 2, 6, 4, 7], [0, 1, 3, 5, 4, 2, 6, 7], [0, 1, 5, 2, 3, 4, 6, 7], [0, 1, 5, 2, 3, 6, 4, 7], [0, 1, 5, 2, 6, 3, 4, 7], [0, 1, 5, 3, 2, 4, 6, 7], [0, 1, 5, 3, 2, 6, 4, 7], [0, 1, 5, 3, 4, 2, 6, 7], [0, 3, 1, 2, 4, 5, 6, 7], [0, 3, 1, 2, 5, 4, 6, 7], [0, 3, 1, 2, 5, 6, 4, 7], [0, 3, 1, 4, 2, 5, 6, 7], [0, 3, 1, 4, 5, 2, 6, 7], [0, 3, 1, 5, 2, 4, 6, 7], [0, 3, 1, 5, 2, 6, 4, 7], [0, 3, 1, 5, 4, 2, 6, 7], [0, 3, 4, 1, 2, 5, 6, 7], [0, 3, 4, 1, 5, 2, 6, 7], [0, 3, 4, 5, 1, 2, 6, 7], [0, 3, 5, 1, 2, 4, 6, 7], [0, 3, 5, 1, 2, 6, 4, 7], [0, 3, 5, 1, 4, 2, 6, 7], [0, 3, 5, 4, 1, 2, 6, 7], [0, 5, 1, 2, 3, 4, 6, 7], [0, 5, 1, 2, 3, 6, 4, 7], [0, 5, 1, 2, 6, 3, 4, 7], [0, 5, 1, 3, 2, 4, 6, 7], [0, 5, 1, 3, 2, 6, 4, 7], [0, 5, 1, 3, 4, 2, 6, 7], [0, 5, 3, 1, 2, 4, 6, 7], [0, 5, 3, 1, 2, 6, 4, 7], [0, 5, 3, 1, 4, 2, 6, 7], [0, 5, 3, 4, 1, 2, 6, 7], [1, 0, 2, 3, 4, 5, 6, 7], [1, 0, 2, 3, 5, 4, 6, 7], [1, 0, 2, 3, 5, 6, 4, 7], [1, 0, 2, 5, 3, 4, 6, 7], [1, 0, 2, 5, 3, 6, 4, 7], [1, 0, 2, 5, 6, 3, 4, 7], [1, 0, 3, 2, 4, 5, 6, 7], [1, 0, 3, 2, 5, 4, 6, 7], [1, 0, 3, 2, 5, 6, 4, 7], [1, 0, 3, 4, 2, 5, 6, 7], [1, 0, 3, 4, 5, 2, 6, 7], [1, 0, 3, 5, 2, 4, 6, 7], [1, 0, 3, 5, 2, 6, 4, 7], [1, 0, 3, 5, 4, 2, 6, 7], [1, 0, 5, 2, 3, 4, 6, 7], [1, 0, 5, 2, 3, 6, 4, 7], [1, 0, 5, 2, 6, 3, 4, 7], [1, 0, 5, 3, 2, 4, 6, 7], [1, 0, 5, 3, 2, 6, 4, 7], [1, 0, 5, 3, 4, 2, 6, 7], [1, 2, 0, 3, 4, 5, 6, 7], [1, 2, 0, 3, 5, 4, 6, 7], [1, 2, 0, 3, 5, 6, 4, 7], [1, 2, 0, 5, 3, 4, 6, 7], [1, 2, 0, 5, 3, 6, 4, 7], [1, 2, 0, 5, 6, 3, 4, 7], [1, 2, 3, 0, 4, 5, 6, 7], [1, 2, 3, 0, 5, 4, 6, 7], [1, 2, 3, 0, 5, 6, 4, 7], [1, 2, 3, 4, 0, 5, 6, 7], [1, 3, 0, 2, 4, 5, 6, 7], [1, 3, 0, 2, 5, 4, 6, 7], [1, 3, 0, 2, 5, 6, 4, 7], [1, 3, 0, 4, 2, 5, 6, 7], [1, 3, 0, 4, 5, 2, 6, 7], [1, 3, 0, 5, 2, 4, 6, 7], [1, 3, 0, 5, 2, 6, 4, 7], [1, 3, 0, 5, 4, 2, 6, 7], [1, 3, 2, 0, 4, 5, 6, 7], [1, 3, 2, 0, 5, 4, 6, 7], [1, 3, 2, 0, 5, 6, 4, 7], [1, 3, 2, 4, 0, 5, 6, 7], [1, 3, 4, 0, 2, 5, 6, 7], [1, 3, 4, 0, 5, 2, 6, 7], [1, 3, 4, 2, 0, 5, 6, 7], [3, 0, 1, 2, 4, 5, 6, 7], [3, 0, 1, 2, 5, 4, 6, 7], [3, 0, 1, 2, 5, 6, 4, 7], [3, 0, 1, 4, 2, 5, 6, 7], [3, 0, 1, 4, 5, 2, 6, 7], [3, 0, 1, 5, 2, 4, 6, 7], [3, 0, 1, 5, 2, 6, 4, 7], [3, 0, 1, 5, 4, 2, 6, 7], [3, 0, 4, 1, 2, 5, 6, 7], [3, 0, 4, 1, 5, 2, 6, 7], [3, 0, 4, 5, 1, 2, 6, 7], [3, 0, 5, 1, 2, 4, 6, 7], [3, 0, 5, 1, 2, 6, 4, 7], [3, 0, 5, 1, 4, 2, 6, 7], [3, 0, 5, 4, 1, 2, 6, 7], [3, 1, 0, 2, 4, 5, 6, 7], [3, 1, 0, 2, 5, 4, 6, 7], [3, 1, 0, 2, 5, 6, 4, 7], [3, 1, 0, 4, 2, 5, 6, 7], [3, 1, 0, 4, 5, 2, 6, 7], [3, 1, 0, 5, 2, 4, 6, 7], [3, 1, 0, 5, 2, 6, 4, 7], [3, 1, 0, 5, 4, 2, 6, 7], [3, 1, 2, 0, 4, 5, 6, 7], [3, 1, 2, 0, 5, 4, 6, 7], [3, 1, 2, 0, 5, 6, 4, 7], [3, 1, 2, 4, 0, 5, 6, 7], [3, 1, 4, 0, 2, 5, 6, 7], [3, 1, 4, 0, 5, 2, 6, 7], [3, 1, 4, 2, 0, 5, 6, 7], [3, 4, 0, 1, 2, 5, 6, 7], [3, 4, 0, 1, 5, 2, 6, 7], [3, 4, 0, 5, 1, 2, 6, 7], [3, 4, 1, 0, 2, 5, 6, 7], [3, 4, 1, 0, 5, 2, 6, 7], [3, 4, 1, 2, 0, 5, 6, 7]] rfl ?_ ⟨rfl, trivial, ⟨rfl, rfl, rfl, trivial⟩, rfl, rfl⟩ rfl (Nat.le_of_eq hK)
  unfold sP2
  repeat (first | exact AllL.nil | (refine AllL.cons (LinOk.mk rfl trivial ?_) ?_; · exact ⟨trivial, ⟨rfl, rfl, rfl, trivial⟩, rfl, rfl⟩))
set_option maxHeartbeats 600000 in
theorem parse1_pan (g2 g3 g4 : Nat) (e : Int × Int) (u2 : Value) (x3 x4 : Int) (t2 t3 t4 : TypeId) (w : World) (hu2 : u2.oneCell' = true) (h2 : w.heap[g2]? = some (.cells #[u2] t2 (0, 0))) (h3 : w.heap[g3]? = some (.cells #[.int .i64 x3] t3 (0, 0))) (h4 : w.heap[g4]? = some (.cells #[.int .i64 x4] t4 (0, 0))) (hne : g2 ≠ g3 ∧ g2 ≠ g4 ∧ g3 ≠ g4) :
    CallsDIn Fence.wide 0 Tryz.prog 61 #[.pointer (some ⟨g2, 0, none⟩), .pointer (some ⟨g3, 0, none⟩), .pointer (some ⟨g4, 0, none⟩)] (.panicking [{ v := pv e, recovered := false }]) w fun en u' w' =>
    (∃ v, en = .returned v) ∧ u' = .panicking [{ v := pv e, recovered := true }] ∧ Kept (fun g => g = g2 ∨ g = g3 ∨ g = g4) w w' ∧ ∃ t2 t3 t4, w'.heap[g2]? = some (.cells #[.slice none 0 0] t2 (0, 0)) ∧ w'.heap[g3]? = some (.cells #[.int .i64 e.1] t3 (0, 0)) ∧ w'.heap[g4]? = some (.cells #[.int .i64 e.2] t4 (0, 0)) := by
  refine callsDIn_of_wpSIn Tryz.func61 rfl trivial fun c₀ cs hu => ?_
  apply wpSIn_seq
  apply wpSIn_region
  simp [wpOpsSIn, go_sem, recoverD, hu, Tryz.ntmps61, Exit.thenS, pv, as_pv]
  apply wpSIn_seq
  apply wpSIn_region
  simp [wpOpsSIn, go_sem, Exit.thenS]
  refine wpSIn_cond (t := true) (by simp [Act.eval]) ?_
  simp only [if_true]
  refine wpSIn_of_wpIn rfl ?_
  have hl2 := (Array.getElem?_eq_some_iff.1 h2).1
  have hl3 := (Array.getElem?_eq_some_iff.1 h3).1
  have hl4 := (Array.getElem?_eq_some_iff.1 h4).1
  have hbA : Below w.heap.size w (w.alloc (.cells #[.int .i64 e.1, .int .i64 e.2] 100)) := below_alloc _ _
  have h5 : (w.alloc (.cells #[.int .i64 e.1, .int .i64 e.2] 100)).heap[w.heap.size]? = some (.cells #[.int .i64 e.1, .int .i64 e.2] 100 (0, 0)) := World.alloc_heap_new _ _
  replace h2 := (hbA.block _ hl2).trans h2
  replace h3 := (hbA.block _ hl3).trans h3
  replace h4 := (hbA.block _ hl4).trans h4
  generalize w.alloc (.cells #[.int .i64 e.1, .int .i64 e.2] 100) = w1 at *
  let X : Ownr := { G := fun _ => True, X := fun _ => False, K := 4, fix := fixP g2 g3 g4 w.heap.size }
  have hR : ∀ g, X.R g → g = g2 ∨ g = g3 ∨ g = g4 ∨ g = w.heap.size := by
    rintro g ⟨i, hi, rfl⟩
    have hi : i < 4 := hi
    rcases (show i = 0 ∨ i = 1 ∨ i = 2 ∨ i = 3 by omega) with rfl | rfl | rfl | rfl
    · exact .inl rfl
    · exact .inr (.inl rfl)
    · exact .inr (.inr (.inl rfl))
    · exact .inr (.inr (.inr rfl))
  have hX : X.Ok w1 := by
    refine ⟨fun g h => h.elim, fun g h => ?_, fun _ _ => trivial⟩
    have := (Array.getElem?_eq_some_iff.1 h5).1
    have := hbA.size
    rcases hR g h with rfl | rfl | rfl | rfl <;> omega
  let β : Nat → Value := fun i => .pointer (some ⟨X.fix i, 0, none⟩)
  have hsim : ∀ a : Act, a.tmps.size = 16 → a.defers = [] → a.tmps.getD 0 undef = .pointer (some ⟨g2, 0, none⟩) → a.tmps.getD 1 undef = .pointer (some ⟨g3, 0, none⟩) → a.tmps.getD 2 undef = .pointer (some ⟨g4, 0, none⟩) → a.tmps.getD 3 undef = .pointer (some ⟨w.heap.size, 0, none⟩) →
      Sim w1 X 16 (sP1 u2 x3 x4 e) β a w1 := fun a hsz hdf e0 e1 e2 e3 => by
    refine Sim.boxes (X := X) hsz hdf (fun i _ => rfl) ?_ ?_ ?_ rfl
    · intro i j hi hj hij
      have hi : i < 4 := hi
      have hj : j < 4 := hj
      have hij : fixP g2 g3 g4 w.heap.size i = fixP g2 g3 g4 w.heap.size j := hij
      unfold fixP at hij
      rcases (show i = 0 ∨ i = 1 ∨ i = 2 ∨ i = 3 by omega) with rfl | rfl | rfl | rfl <;> rcases (show j = 0 ∨ j = 1 ∨ j = 2 ∨ j = 3 by omega) with rfl | rfl | rfl | rfl <;> first | rfl | (exfalso; simp at hij; omega)
    · intro i o h
      rw [Owns.get_cons] at h
      split at h
      · rename_i hi; subst hi; cases h
        exact ⟨by show 0 < 4; omega, rfl, ⟨g2, [u2], _, rfl, Nat.zero_le _, h2, u2, [], rfl, hu2, rfl, rfl⟩, fun vs e v hv => by cases e; rw [List.mem_singleton] at hv; subst hv; exact Nat.zero_le _⟩
      rw [Owns.get_cons] at h
      split at h
      · rename_i _ hi; subst hi; cases h
        exact ⟨by show 1 < 4; omega, rfl, ⟨g3, [_], _, rfl, Nat.zero_le _, h3, rfl⟩, fun vs e => by cases e⟩
      rw [Owns.get_cons] at h
      split at h
      · rename_i _ _ hi; subst hi; cases h
        exact ⟨by show 2 < 4; omega, rfl, ⟨g4, [_], _, rfl, Nat.zero_le _, h4, rfl⟩, fun vs e => by cases e⟩
      rw [Owns.get_cons] at h
      split at h
      · rename_i _ _ _ hi; subst hi; cases h
        exact ⟨by show 3 < 4; omega, rfl, ⟨w.heap.size, [.int .i64 e.1, .int .i64 e.2], _, rfl, Nat.zero_le _, h5, [.int .i64 e.1], [.int .i64 e.2], rfl, rfl, [.int .i64 e.2], [], rfl, rfl, rfl⟩, fun vs e => by cases e⟩
      · cases h
    · refine rep_cons ⟨g2, rfl, e0⟩ (rep_cons ⟨g3, rfl, e1⟩ (rep_cons ⟨g4, rfl, e2⟩ (rep_cons ⟨w.heap.size, rfl, e3⟩ rep_nil)))
  refine Go.wpIn_mono (parse1_awp hX (fun _ _ _ _ => trivial) rfl u2 x3 x4 e β _ w1 (hsim _ ?_ ?_ ?_ ?_ ?_ ?_)) ?_
  · simp
  · rfl
  · simp [Array.getD_eq_getD_getElem?, Array.getElem?_append]
  · simp [Array.getD_eq_getD_getElem?, Array.getElem?_append]
  · simp [Array.getD_eq_getD_getElem?, Array.getElem?_append]
  · simp [Array.getD_eq_getD_getElem?, Array.getElem?_append]
  · rintro en a' w' ⟨σ', β', h1, rfl, hf⟩
    have h6 := h1.fit hf (Nat.le_refl _)
    have hblk : ∀ i, i < 4 → blockOf (β' i) = some (fixP g2 g3 g4 w.heap.size i) := fun i hi => (h6.fix.2 i hi).1
    obtain ⟨k2, c2, y2, q1, _, q2, q3⟩ := h6.own 0 _ rfl
    obtain ⟨k3, c3, y3, q4, _, q5, q6⟩ := h6.own 1 _ rfl
    obtain ⟨k4, c4, y4, q7, _, q8, q9⟩ := h6.own 2 _ rfl
    have e0 := hblk 0 (by omega)
    have e1 := hblk 1 (by omega)
    have e2 := hblk 2 (by omega)
    rw [q1] at e0
    rw [q4] at e1
    rw [q7] at e2
    have f0 : k2 = g2 := by simpa [blockOf, fixP] using e0
    have f1 : k3 = g3 := by simpa [blockOf, fixP] using e1
    have f2 : k4 = g4 := by simpa [blockOf, fixP] using e2
    subst f0; subst f1; subst f2
    obtain ⟨u, r, rfl, _, hu, hr⟩ := q3
    have hu : u = .slice none 0 0 := hu
    have hr : r = [] := hr
    subst hu; subst hr
    have q6 : c3 = [.int .i64 e.1] := q6
    have q9 : c4 = [.int .i64 e.2] := q9
    subst q6; subst q9
    refine ⟨h6.df, _, rfl, _, results_none rfl _ _ _, ⟨_, rfl⟩, rfl, ⟨h6.bel.os.trans hbA.os, h6.bel.tape.trans hbA.tape, h6.bel.output.trans hbA.output, Nat.le_trans hbA.size h6.bel.size, fun k hk hn => (h6.bel.block k (Nat.lt_of_lt_of_le hk hbA.size) fun hr => ?_).trans (hbA.block k hk)⟩, ⟨_, q2⟩, ⟨_, q5⟩, ⟨_, q8⟩⟩
    rcases hR k hr with h | h | h | h
    · exact hn (.inl h)
    · exact hn (.inr (.inl h))
    · exact hn (.inr (.inr h))
    · omega
end Go.Proofs.YthkhgpbjfcmopaaGreatDoor
