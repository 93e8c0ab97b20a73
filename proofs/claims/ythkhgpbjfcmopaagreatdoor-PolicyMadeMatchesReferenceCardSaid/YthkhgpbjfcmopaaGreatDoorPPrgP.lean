/-
  Package policy: Parse: the parts of a text and what the lines make of them; the results.
-/
import Derived.Test.YthkhgpbjfcmopaaGreatDoorPPrgO
namespace Go.Proofs.YthkhgpbjfcmopaaGreatDoor
open Go Go.RowKit
set_option linter.unusedSimpArgs false
set_option linter.unusedVariables false
set_option linter.unusedSimpArgs false
set_option linter.unusedVariables false
set_option maxRecDepth 100000
def total : List (List UInt8) → Nat
  | [] => 0
  | g :: r => g.length + 1 + total r
theorem segF_total : ∀ (s c : List UInt8), total (segF c s) = c.length + s.length + 1
  | [], c => by unfold segF total total; simp
  | x :: r, c => by
    unfold segF
    split
    · rw [total, segF_total r []]; simp; omega
    · rw [segF_total r]; simp; omega
theorem segs_total (s : List UInt8) : total (segs s) = s.length + 1 := by rw [segs, segF_total]; simp
theorem spF_last : ∀ (s : List UInt8) (i : Nat) (c : List UInt8) (out : List Wp), ∃ p j, spF s i c out = p ++ [([], j, ())]
  | [], i, c, out => ⟨_, _, rfl⟩
  | x :: r, i, c, out => by
    unfold spF
    split
    · exact spF_last r _ _ _
    · exact spF_last r _ _ _
theorem flushP_len {N : Nat} {c : List UInt8} {a : Int} {out : List Wp} (ho : ∀ x ∈ out, (wT x).length ≤ N) (hc : c.length ≤ N) : ∀ x ∈ flushP c a out, (wT x).length ≤ N := by
  intro x hx
  unfold flushP at hx
  split at hx
  · exact ho x hx
  · rcases List.mem_append.1 hx with h | h
    · exact ho x h
    · rw [List.mem_singleton] at h
      subst h
      exact hc
theorem spF_len {N : Nat} : ∀ (s : List UInt8) (i : Nat) (c : List UInt8) (out : List Wp), (∀ x ∈ out, (wT x).length ≤ N) → c.length + s.length ≤ N → ∀ x ∈ spF s i c out, (wT x).length ≤ N
  | [], i, c, out, ho, hc, x, hx => by
    rcases List.mem_append.1 (show x ∈ flushP c ((i - c.length : Nat) : Int) out ++ [([], (i : Int), ())] from hx) with h | h
    · exact flushP_len ho (by simpa using hc) x h
    · rw [List.mem_singleton] at h
      subst h
      exact Nat.zero_le _
  | y :: r, i, c, out, ho, hc, x, hx => by
    unfold spF at hx
    rw [List.length_cons] at hc
    split at hx
    · exact spF_len r _ _ _ ho (by rw [List.length_append, List.length_singleton]; omega) x hx
    · exact spF_len r _ _ _ (flushP_len ho (by omega)) (by simp only [List.length_nil]; omega) x hx
theorem splitS_WW {y : List UInt8} {i : Nat} (hy : y.length ≤ 100000) : WW (splitS y i) := by
  obtain ⟨p, j, h⟩ := spF_last y i [] []
  refine ⟨?_, spF_len y i [] [] (fun x hx => by cases hx) (by simpa using hy)⟩
  unfold splitS
  rw [h]
  refine ⟨by simp, ?_⟩
  rw [List.length_append, List.length_singleton, Nat.add_sub_cancel, List.getD_eq_getElem?_getD, List.getElem?_append_right (Nat.le_refl _), Nat.sub_self]
  rfl
/-- one line, and the rest -/
theorem pK0_step (y : List UInt8) (r : List (List UInt8)) (i : Nat) (acc : List Gt) (hacc : acc.length ≤ 64) : pK0 (y :: r) i acc.length acc = match stepP y i acc with
    | .error e => ([], e.1, e.2)
    | .ok acc' => pK0 r (i + y.length + 1) acc'.length acc' := by
  unfold pK0 stepP
  rw [linesOf, keepW]
  split
  · rfl
  · rw [List.singleton_append]
    by_cases hk : acc.length = 64
    · rw [if_pos hk]
      unfold pF
      rw [if_pos hk]
      rfl
    · rw [if_neg hk, pF_cons hk, grantP_W]
      cases grantW (splitS y i) with
      | error e => rfl
      | ok g =>
        simp only
        rw [List.length_append, List.length_singleton]
theorem stepP_le {y : List UInt8} {i : Nat} {acc acc' : List Gt} (hacc : acc.length ≤ 64) (h : stepP y i acc = .ok acc') : acc'.length ≤ 64 := by
  unfold stepP at h
  split at h
  · cases h; exact hacc
  · split at h
    · cases h
    · split at h
      · cases h
      · cases h
        rw [List.length_append, List.length_singleton]
        omega
theorem pK0_nil (i k : Nat) (acc : List Gt) : pK0 [] i k acc = (acc, 0, 0) := rfl
/-- the results, read out of their variables -/
theorem parse_res {tmps : Array Value} {g2 g3 g4 : Nat} {W : World} {u : Value} {x y : Int} {t2 t3 t4 : TypeId} (hu : u.oneCell' = true) (h2 : tmps.getD 2 undef = .pointer (some ⟨g2, 0, none⟩)) (h3 : tmps.getD 3 undef = .pointer (some ⟨g3, 0, none⟩)) (h4 : tmps.getD 4 undef = .pointer (some ⟨g4, 0, none⟩))
    (c2 : W.heap[g2]? = some (.cells #[u] t2 (0, 0))) (c3 : W.heap[g3]? = some (.cells #[.int .i64 x] t3 (0, 0))) (c4 : W.heap[g4]? = some (.cells #[.int .i64 y] t4 (0, 0))) :
    (results Tryz.f30 tmps).run Tryz.prog W = .ok (.tuple #[.agg #[u], .int .i64 x, .int .i64 y]) W := by
  have d2 := (cell_of_blk c2).1
  have d3 := (cell_of_blk c3).1
  have d4 := (cell_of_blk c4).1
  rw [Array.getD_eq_getD_getElem?] at h2 h3 h4
  simp [results, Tryz.f30, go_sem, h2, h3, h4, d2, d3, d4]
theorem res_po {w : World} {O : Nat → Prop} {acc : List Gt} {x y : Int} {u : Value} (hu : RepD w O (.slice gr) acc u) : ResRel w O 0 none (.tup po (.tup i64 (.tup i64 .unit))) ((acc, ()), x, y, ()) (.tuple #[.agg #[u], .int .i64 x, .int .i64 y]) := fun β =>
  ⟨[_, _, _], rfl, _, _, rfl, (RepD.agg rfl).2 ⟨[u], rfl, [u], [], rfl, hu, rfl⟩, _, _, rfl, rfl, _, _, rfl, rfl, rfl⟩
end Go.Proofs.YthkhgpbjfcmopaaGreatDoor
