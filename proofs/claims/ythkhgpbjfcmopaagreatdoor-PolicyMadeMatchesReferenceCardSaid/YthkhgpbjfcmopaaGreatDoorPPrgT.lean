/-
  Package policy: Parse.
-/
import Derived.Test.YthkhgpbjfcmopaaGreatDoorPPrgS
namespace Go.Proofs.YthkhgpbjfcmopaaGreatDoor
open Go Go.RowKit
set_option linter.unusedSimpArgs false
set_option linter.unusedVariables false
set_option linter.unusedSimpArgs false
set_option linter.unusedVariables false
attribute [local go_sem] Oper.semAt_some
set_option maxRecDepth 100000
theorem alloc_old {w : World} (o : Obj) {k : Nat} {x : Obj} (h : w.heap[k]? = some x) : (w.alloc o).heap[k]? = some x := ((below_alloc w o).block _ (Array.getElem?_eq_some_iff.1 h).1).trans h
theorem alloc_at {w : World} (o : Obj) {k : Nat} (h : w.heap.size = k) : (w.alloc o).heap[k]? = some o := by subst h; exact World.alloc_heap_new _ _
theorem four_alloc (w : World) (o1 o2 o3 : Obj) : Below w.heap.size w (((w.alloc o1).alloc o2).alloc o3) := ((((Below.refl _ w).alloc (Nat.le_refl _) _).alloc (by simp) _).alloc (by simp; omega) _)
set_option maxHeartbeats 1000000 in
theorem parse_ok : CtrOk Tryz.prog pH 30 cRParse := by
  refine ⟨Tryz.call30, fun w O xs vs hO hr hp hG => ?_⟩
  obtain ⟨(s : List UInt8), _⟩ := xs
  obtain ⟨v1, r1, rfl, e1, rfl⟩ := hr
  have e1 : [v1] = [Value.string ⟨s.toArray⟩] ∧ s.length ≤ maxLen := e1
  obtain ⟨e1, hmax⟩ := e1
  cases e1
  refine callsIn_wide.1 (calls_of_wpFor (m := 1) Tryz.func30 rfl ?_)
  simp only [Tryz.ntmps30, List.size_toArray, List.length_cons, List.length_nil, Nat.reduceAdd, Nat.reduceSub, Array.replicate_succ, Array.replicate_zero, List.push_toArray, List.append_toArray, List.nil_append, List.cons_append]
  change wpFor _ _ _ (bodyPostM Fence.wide 1 Tryz.prog Tryz.f30 (PEnds w O (parseS s))) _ _
  generalize hQ : bodyPostM Fence.wide 1 Tryz.prog Tryz.f30 _ = Q
  have hmf := mkF
  refine wpFor_seq (wpFor_of (m := 1) ?_)
  gi_wp2
  refine wpFor_seq (wpFor_of (m := 1) ?_)
  gi_wp2
  · rename_i hlong
    have hP : parseS s = ([], 0, 2) := if_pos (by omega)
    rw [← hQ, hP]
    refine ⟨_, parse_res (g2 := w.heap.size) (g3 := w.heap.size + 1) (g4 := w.heap.size + 1 + 1) (u := .slice none 0 0) (x := 0) (y := 2) (t2 := 24) (t3 := 3) (t4 := 39) rfl rfl rfl rfl ?_ ?_ ?_, _, rfl, four_alloc _ _ _ _, res_po (acc := []) ⟨_, rfl, .inl ⟨rfl, none, 0, rfl, Nat.zero_le _⟩⟩⟩
    · exact alloc_old _ (alloc_old _ (alloc_at _ rfl))
    · exact alloc_old _ (alloc_at _ (by simp))
    · exact alloc_at _ (by simp)
  rename_i hshort
  have hlen : s.length ≤ 4000 := by omega
  refine wpFor_seq (wpFor_of (m := 1) ?_)
  gi_wp2
  refine wpFor_seq (wpFor_of (m := 1) ?_)
  gi_wp2
  refine wpFor_seq (wpFor_seq (wpFor_of (m := 1) ?_))
  gi_wp2
  refine ⟨trivial, (callsIn_wide.2 (splitSeq_call _ _ _)).mono ?_⟩
  rintro e w' ⟨rfl, rfl⟩
  gi_wp2
  refine wpFor_block ?_
  obtain ⟨w4, hw4⟩ : ∃ w4 : World, w4 = ((((w.alloc (.cells #[.slice none 0 0] 24)).alloc (.cells #[.int .i64 0] 3)).alloc (.cells #[.int .i64 0] 39)).alloc (.cells #[.int .i64 0] 3)) := ⟨_, rfl⟩
  rw [← hw4, ← hQ]
  have hs4 : w4.heap.size = w.heap.size + 4 := by rw [hw4]; simp
  have hb4 : Below w.heap.size w w4 := by rw [hw4]; exact (four_alloc _ _ _ _).trans ((below_alloc _ _).mono (four_alloc w _ _ _).size)
  have b0 : w4.heap[w.heap.size]? = some (.cells #[.slice none 0 0] 24 (0, 0)) := by rw [hw4]; exact alloc_old _ (alloc_old _ (alloc_old _ (alloc_at _ rfl)))
  have b1 : w4.heap[w.heap.size + 1]? = some (.cells #[.int .i64 0] 3 (0, 0)) := by rw [hw4]; exact alloc_old _ (alloc_old _ (alloc_at _ (by simp)))
  have b2 : w4.heap[w.heap.size + 1 + 1]? = some (.cells #[.int .i64 0] 39 (0, 0)) := by rw [hw4]; exact alloc_old _ (alloc_at _ (by simp))
  have b3 : w4.heap[w.heap.size + 1 + 1 + 1]? = some (.cells #[.int .i64 0] 3 (0, 0)) := by rw [hw4]; exact alloc_at _ (by simp)
  have hb5 : Below w.heap.size w (itW w4 ⟨s.toArray⟩ ⟨#[10]⟩) := hb4.trans ((four_alloc w4 _ _ _).mono hb4.size)
  have i0 : (itW w4 ⟨s.toArray⟩ ⟨#[10]⟩).heap[w.heap.size + 4]? = some (.cells #[.string ⟨s.toArray⟩] 9 (0, 0)) := alloc_old _ (alloc_old _ (alloc_at _ hs4))
  have i1 : (itW w4 ⟨s.toArray⟩ ⟨#[10]⟩).heap[w.heap.size + 5]? = some (.cells #[.string ⟨#[10]⟩] 9 (0, 0)) := alloc_old _ (alloc_at _ (by simp [hs4]))
  have i2 : (itW w4 ⟨s.toArray⟩ ⟨#[10]⟩).heap[w.heap.size + 6]? = some (.cells #[.int .i64 0] 3 (0, 0)) := alloc_at _ (by simp [hs4])
  have hs5 : (itW w4 ⟨s.toArray⟩ ⟨#[10]⟩).heap.size = w.heap.size + 7 := by simp [itW, hs4]
  have hit : itV w4 = .func (.func 111) #[] #[.pointer (some ⟨w.heap.size + 5, 0, none⟩), .pointer (some ⟨w.heap.size + 4, 0, none⟩), .pointer (some ⟨w.heap.size + 6, 0, none⟩)] := by unfold itV; rw [hs4]
  have hl : ∀ g (o : Obj), w4.heap[g]? = some o → (itW w4 ⟨s.toArray⟩ ⟨#[10]⟩).heap[g]? = some o := fun g o hg => alloc_old _ (alloc_old _ (alloc_old _ hg))
  exact parse_range rfl hO hG hlen hs5 hb5 (hl _ _ b0) (hl _ _ b1) (hl _ _ b2) (hl _ _ b3) i0 i1 i2 rfl rfl rfl rfl rfl hit rfl
end Go.Proofs.YthkhgpbjfcmopaaGreatDoor
