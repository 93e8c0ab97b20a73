/-
  Many slices of bytes in new memory, and what a store into one of them leaves. No program is read here but for nothing.
-/
import Derived.Test.YthhphphdbgkdgaaDoorJRec
namespace Go.Proofs.YthhphphdbgkdgaaDoor
open Go Go.RowKit
set_option linter.unusedSimpArgs false
set_option linter.unusedVariables false
theorem repL_of_bytes {w : World} {O : Nat → Prop} : ∀ ys : List UInt8, RepL (RepC w O u8) ys (ys.map fun b => .int .u8 (b.toNat : Int))
  | [] => rfl
  | y :: ys => ⟨[_], _, rfl, rfl, repL_of_bytes ys⟩
theorem over_eq {α : Type} (c : List α) (v : α) (k : Nat) (h : k < c.length) : c.take k ++ [v] ++ c.drop (k + 1) = c.set k v := by
  rw [List.set_eq_take_append_cons_drop, if_pos h, List.append_assoc, List.singleton_append]
theorem New.store {w1 w : World} {te te' : TypeId} {v : Value} {g k : Nat} {cur : Array Value} (h : New w1 te w v) (hg : w.heap[g]? = some (.cells cur te' (0, 0))) (hk : k < cur.size) : New w1 te (w.setRow g (cur.toList.take k ++ [Value.int .u8 201] ++ cur.toList.drop (k + 1)).toArray) v := by
  obtain ⟨ys, cs, hL, hrow, hpos⟩ := h
  have hkl : k < cur.toList.length := by have : cur.toList.length = cur.size := Array.length_toList; omega
  rcases hrow.2 with ⟨e, hz⟩ | ⟨g2, cap, cur2, hv, hge, hg2, hcap, hm, hcs, htake⟩
  · exact ⟨ys, cs, hL.mono fun x _ c => repC_flat u8 rfl x c, ⟨hrow.1, .inl ⟨e, hz⟩⟩, hpos⟩
  · by_cases e : g2 = g
    · subst e
      rw [hg] at hg2
      cases hg2
      have hlen : ys.length ≤ cur.size := by
        rw [hcs]
        show ys.length ≤ cap * 1
        omega
      have hcm : cs = ys.map fun b => .int .u8 (b.toNat : Int) := repL_bytes hL
      have htake : cur.toList.take ys.length = cs := by rw [← htake]; rw [show ys.length * u8.size = ys.length from Nat.mul_one _]
      refine ⟨ys.set k 201, (ys.set k 201).map fun b => .int .u8 (b.toNat : Int), (repL_of_bytes _), ⟨by rw [List.length_map]; exact (Nat.mul_one _).symm, .inr ⟨g2, cap, _, by rw [List.length_set]; exact hv, hge, setRow_heap w g2 cur _ _ _ hg, by rw [List.length_set]; exact hcap, hm, ?_, ?_⟩⟩, hpos⟩
      · rw [over_eq _ _ _ hkl]
        simp only [List.size_toArray, List.length_set, Array.length_toList]
        exact hcs
      · rw [over_eq _ _ _ hkl, List.length_set, show ys.length * u8.size = ys.length from Nat.mul_one _]
        show (cur.toList.set k (.int .u8 201)).take ys.length = _
        rw [List.take_set, htake, hcm, List.map_set]
        rfl
    · refine ⟨ys, cs, hL.mono fun x _ c => repC_flat u8 rfl x c, ⟨hrow.1, .inr ⟨g2, cap, cur2, hv, hge, ?_, hcap, hm, hcs, htake⟩⟩, hpos⟩
      rw [setRow_other w g g2 _ e]
      exact hg2
/-- a slice of such slices -/
def AllR (w1 w : World) (te : TypeId) (v : Value) (n : Nat) (hs : List Value) : Prop := w.ownsRow w1.heap.size te 1 v n hs ∧ 0 < n ∧ ∀ h ∈ hs, Lives w1 w h
theorem Lives.form {w1 w : World} {h : Value} (hl : Lives w1 w h) : ∃ A m c, h = .slice A m c ∧ m ≤ maxLen := by
  rcases hl with ⟨A, c, e⟩ | ⟨te, ys, cs, _, hr, _⟩
  · exact ⟨_, _, _, e, Nat.zero_le _⟩
  · rcases hr.2 with ⟨e, _⟩ | ⟨g, c, _, e, _, _, h1, h2, _⟩
    · exact ⟨_, _, _, e, Nat.zero_le _⟩
    · exact ⟨_, _, _, e, Nat.le_trans h1 h2⟩
theorem AllR.get {w1 w : World} {te : TypeId} {v : Value} {n : Nat} {hs : List Value} (h : AllR w1 w te v n hs) : ∃ g cap, v = .slice (some ⟨g, 0, none⟩) n cap ∧ w1.heap.size ≤ g ∧ ∀ i, i < n → ∃ A m c, m ≤ maxLen ∧ hs[i]? = some (.slice A m c) ∧ w.cell? ⟨g, i, none⟩ = some (.slice A m c) := by
  obtain ⟨⟨hl, h1⟩, hn, h2⟩ := h
  rcases h1 with ⟨_, hz⟩ | ⟨g, cap, cur, hv, hge, hg, hcap, _, hcs, htake⟩
  · omega
  · refine ⟨g, cap, hv, hge, fun i hi => ?_⟩
    rw [Nat.mul_one] at hl
    have hi2 : i < hs.length := by omega
    obtain ⟨A, m, c, e, hm⟩ := (h2 hs[i] (List.getElem_mem _)).form
    have hi3 : hs[i]? = some (.slice A m c) := by rw [List.getElem?_eq_getElem hi2, e]
    refine ⟨A, m, c, hm, hi3, ?_⟩
    unfold World.cell?
    rw [hg]
    simp only [Option.isSome_none, Bool.false_eq_true, if_false]
    rw [Nat.mul_one] at htake
    rw [← htake, List.getElem?_take, if_pos hi, Array.getElem?_toList] at hi3
    exact hi3
theorem AllR.store {w1 w : World} {te : TypeId} {v : Value} {n : Nat} {hs : List Value} (h : AllR w1 w te v n hs) {A : Option Addr} {m c k : Nat} (hm : Value.slice A m c ∈ hs) (hk : k < m) :
    ∃ g cur te', A = some ⟨g, 0, none⟩ ∧ w1.heap.size ≤ g ∧ w.heap[g]? = some (.cells cur te' (0, 0)) ∧ k < cur.size ∧ AllR w1 (w.setRow g (cur.toList.take k ++ [Value.int .u8 201] ++ cur.toList.drop (k + 1)).toArray) te v n hs := by
  have hget := h.get
  obtain ⟨hrow, hn, h2⟩ := h
  rcases h2 _ hm with ⟨A', c', e⟩ | ⟨te2, ys, cs, hL, hr, hpos⟩
  · cases e; omega
  rcases hr.2 with ⟨e, _⟩ | ⟨g, cap, cur, hv, hge, hg, hcap, _, hcs, htake⟩
  · cases e; omega
  cases hv
  have hks : k < cur.size := by
    rw [hcs]
    show k < c * 1
    omega
  refine ⟨g, cur, te2, rfl, hge, hg, hks, ?_, hn, fun x hx => ?_⟩
  · refine ⟨hrow.1, ?_⟩
    rcases hrow.2 with ⟨_, hz⟩ | ⟨gA, capA, curA, hvA, hgeA, hgA, hcapA, hmA, hcsA, htakeA⟩
    · omega
    · refine .inr ⟨gA, capA, curA, hvA, hgeA, ?_, hcapA, hmA, hcsA, htakeA⟩
      have hne : gA ≠ g := by
        rintro rfl
        obtain ⟨g', cap', e1, _, e3⟩ := hget
        rw [hvA] at e1
        cases e1
        obtain ⟨A0, m0, c0, _, _, e5⟩ := e3 0 hn
        unfold World.cell? at e5
        rw [hg] at e5
        simp only [Option.isSome_none, Bool.false_eq_true, if_false] at e5
        have hy : 0 < ys.length := by omega
        have e6 : cur.toList.take ys.length = cs := by rw [← htake, show ys.length * u8.size = ys.length from Nat.mul_one _]
        have e7 : cs[0]? = some (.int .u8 ((ys[0]).toNat : Int)) := by rw [repL_bytes hL, List.getElem?_map, List.getElem?_eq_getElem hy]; rfl
        rw [← e6, List.getElem?_take, if_pos hy, Array.getElem?_toList, e5] at e7
        cases e7
      rw [setRow_other w g gA _ hne]
      exact hgA
  · rcases h2 x hx with h9 | ⟨te3, h9⟩
    · exact .inl h9
    · exact .inr ⟨te3, h9.store hg hks⟩
theorem Lives.grow {w0 w w' : World} {v : Value} (h : Lives w0 w v) (hb : Below w.heap.size w w') : Lives w0 w' v := h.imp id fun ⟨te, h⟩ => ⟨te, h.grow hb⟩
theorem AllR.grow {w1 w w' : World} {te : TypeId} {v : Value} {n : Nat} {hs : List Value} (h : AllR w1 w te v n hs) (hb : Below w.heap.size w w') : AllR w1 w' te v n hs := by
  obtain ⟨hrow, hn, h2⟩ := h
  refine ⟨⟨hrow.1, ?_⟩, hn, fun x hx => (h2 x hx).grow hb⟩
  rcases hrow.2 with h9 | ⟨g, cap, cur, hv, hge, hg, h9⟩
  · exact .inl h9
  · exact .inr ⟨g, cap, cur, hv, hge, (hb.block g (Array.getElem?_eq_some_iff.1 hg).1).trans hg, h9⟩
end Go.Proofs.YthhphphdbgkdgaaDoor
