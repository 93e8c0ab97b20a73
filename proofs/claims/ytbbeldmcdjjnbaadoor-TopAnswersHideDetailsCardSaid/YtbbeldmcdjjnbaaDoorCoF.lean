/-
  slices.Chunk of integers and its iterator.
-/
import Derived.Test.YtbbeldmcdjjnbaaDoorCoE
namespace Go.Proofs.YtbbeldmcdjjnbaaDoor
open Go Go.RowKit
set_option linter.unusedSimpArgs false
set_option linter.unusedVariables false
set_option maxRecDepth 100000
abbrev capC : Ty := .tup (.vptr ints) (.tup (.vptr i64) .unit)
/-- how many parts -/
def chN (l : List Int) (n : Nat) : Nat := (l.length + n - 1) / n
def chAt (l : List Int) (n k : Nat) : List Int := (l.drop (k * n)).take n
theorem ch_iff {l : List Int} {n : Nat} (hn : 1 ≤ n) (k : Nat) : k < chN l n ↔ k * n < l.length := by
  unfold chN
  rw [← Nat.add_one_le_iff, Nat.le_div_iff_mul_le (by omega), Nat.add_mul]
  omega
theorem chAt_len (l : List Int) (n k : Nat) : (chAt l n k).length = min n (l.length - k * n) := by unfold chAt; rw [List.length_take, List.length_drop]
/-- one operation's value -/
theorem wpListIn_value {P : Program} {ops : Array Oper} {Q : Exit → Act → World → Prop} {a : Act} {w : World} {o : Oper} {rest : List Oper} {u : Value} (hg : o.guard = none) (hd : ∀ c, o.op ≠ .defer c) (hr : (execOp a.eval o).run P w = .ok (.value u) w) (h : wpListIn Fence.wide 0 P ops Q rest (a.put o.dst u) w) : wpListIn Fence.wide 0 P ops Q (o :: rest) a w :=
  wpListIn_plain hg fun K hK => wpIn_of_wp (ρ := none) hd (wp_run (u := u) (w' := w) hr (hK _ _ h))
theorem wpListIn_cut {P : Program} {ops : Array Oper} {Q : Exit → Act → World → Prop} {a : Act} {w : World} {l : List Oper} (k : Nat) (h : wpListIn Fence.wide 0 P ops Q (l.take k ++ l.drop k) a w) : wpListIn Fence.wide 0 P ops Q l a w := by rwa [List.take_append_drop] at h
abbrev chF (l gs os gn on_ : Nat) (xs : List Int) (n : Int) : List (Nat × V) := [(0, ⟨.lit, .func (.yield l) #[] #[]⟩), (1, ⟨.cptr gs os ints, xs⟩), (2, ⟨.cptr gn on_ i64, n⟩)]
/-- what the iterator reads lies as it lay -/
theorem ints_at {W0 w : World} {O' : Nat → Prop} {C : Nat → Prop} {gs os : Nat} {xs : List Int} {v : Value} (hl : gs < W0.heap.size) (hr : RepC W0 O' ints xs [v]) (hc : CellsAt W0 gs os [v]) (hC : C gs ∧ ∀ g, blockOf v = some g → C g) (hk : ∀ g, C g → w.heap[g]? = W0.heap[g]?) (hsz : W0.heap.size ≤ w.heap.size) {β : Nat → Value} :
    RepV w (fun _ => False) β (.cptr gs os ints) xs (.pointer (some ⟨gs, os, none⟩)) := by
  refine ⟨[v], rfl, Nat.lt_of_lt_of_le hl hsz, fun h => h, ?_, hc.keep (hk gs hC.1)⟩
  obtain ⟨v', e, h⟩ := hr
  cases e
  refine ⟨v, rfl, ?_⟩
  rcases h with h | ⟨g, off, c, vs, rfl, h2, h3, h4, h5, h6, h7, h8⟩
  · exact .inl h
  · refine .inr ⟨g, off, c, vs, rfl, h2, h3, h4, Nat.lt_of_lt_of_le h5 hsz, fun h => h, h7.mono fun x _ c => repC_flat i64 rfl x c, h8.keep (hk g (hC.2 g rfl))⟩
end Go.Proofs.YtbbeldmcdjjnbaaDoor
