/-
  Policies, as plain lists of grants: what is valid, what fits, the first grant.
-/
import Derived.Test.YtbbeldmcdjjnbaaDoorPKn
namespace Go.Proofs.YtbbeldmcdjjnbaaDoor
open Go Go.RowKit
set_option linter.unusedSimpArgs false
set_option linter.unusedVariables false
theorem vI64 {x y : Int} (h : x = y) : (⟨i64, x⟩ : V) = ⟨i64, y⟩ := by rw [h]
theorem vBool {x y : Bool} (h : x = y) : (⟨.bool, x⟩ : V) = ⟨.bool, y⟩ := by rw [h]
abbrev Gt := Int × Int × Int × Int × Int × Unit
def gA (g : Gt) : Int := g.1
def gP (g : Gt) : Int := g.2.1
def gT (g : Gt) : Int := g.2.2.1
def gG (g : Gt) : Int := g.2.2.2.1
def gR (g : Gt) : Int := g.2.2.2.2.1
def zG : Gt := (0, 0, 0, 0, 0, ())
def mkG (a p t g r : Int) : Gt := (a, p, t, g, r, ())
/-- a valid grant -/
def OkG (g : Gt) : Prop := (1 ≤ gA g ∧ gA g ≤ 3) ∧ ((0 ≤ gP g ∧ gP g < 512 ∧ gT g = -1) ∨ (gP g = -1 ∧ -1 ≤ gT g ∧ gT g ≤ 63)) ∧ (0 ≤ gG g ∧ gG g ≤ 4) ∧ (0 ≤ gR g ∧ gR g ≤ 100) ∧ (gA g = 1 ∨ gG g = 0) ∧ (gA g = 3 ∨ gR g = 0)
instance (g : Gt) : Decidable (OkG g) := by unfold OkG; infer_instance
def OkP (l : List Gt) : Prop := l.length ≤ 64 ∧ ∀ g ∈ l, OkG g
instance (l : List Gt) : Decidable (OkP l) := by unfold OkP; infer_instance
def fits (g : Gt) (p : Int) (ts : List Int) : Bool := if 0 ≤ gP g then decide (gP g = p) else decide (gT g = -1) || decide (gT g ∈ ts)
/-- the index of the first for which f holds, or -1 -/
def idx {α : Type} (f : α → Bool) (l : List α) : Int := if l.findIdx f < l.length then (l.findIdx f : Int) else -1
theorem vInts {x y : List Int} (h : x = y) : (⟨ints, x⟩ : V) = ⟨ints, y⟩ := by rw [h]
theorem vGr {x y : Gt} (h : x = y) : (⟨gr, x⟩ : V) = ⟨gr, y⟩ := by rw [h]
theorem vGrs {x y : List Gt} (h : x = y) : (⟨.slice gr, x⟩ : V) = ⟨.slice gr, y⟩ := by rw [h]
theorem bufGr {te : TypeId} {x y : List Gt} (h : x = y) : some (OObj.buf te gr x) = some (OObj.buf te gr y) := by rw [h]
theorem boxGr {x y : Gt} (h : x = y) : some (OObj.box gr x) = some (OObj.box gr y) := by rw [h]
theorem bufInts {te : TypeId} {x y : List Int} (h : x = y) : some (OObj.buf te i64 x) = some (OObj.buf te i64 y) := by rw [h]
theorem vStr {x y : List UInt8} (h : x = y) : (⟨.str, x⟩ : V) = ⟨.str, y⟩ := by rw [h]
theorem idx_none {α : Type} {f : α → Bool} {l : List α} (h : ∀ k (hk : k < l.length), f l[k] = false) : idx f l = -1 := by
  unfold idx
  rw [if_neg]
  intro hl
  have := List.findIdx_getElem (w := hl)
  rw [h _ hl] at this
  cases this
theorem idx_some {α : Type} {f : α → Bool} {l : List α} {k : Nat} (hk : k < l.length) (h : f l[k] = true) (hb : ∀ j (hj : j < k), f (l[j]'(Nat.lt_trans hj hk)) = false) : idx f l = (k : Int) := by
  have : l.findIdx f = k := by
    rw [List.findIdx_eq hk]
    exact ⟨h, fun j hj => hb j hj⟩
  unfold idx
  rw [this, if_pos hk]
theorem idx_find {α : Type} (f : α → Bool) (l : List α) (z : α) : l.find? f = if idx f l < 0 then none else some (l.getD (idx f l).toNat z) := by
  unfold idx
  split
  · rename_i h
    rw [if_neg (by omega)]
    have hl : (l.find? f) = some (l[l.findIdx f]'h) := by
      rw [List.find?_eq_some_iff_getElem]
      refine ⟨List.findIdx_getElem (w := h), l.findIdx f, h, rfl, fun j hj => ?_⟩
      have := List.not_of_lt_findIdx hj
      simpa using this
    rw [hl, Int.toNat_natCast, List.getD_eq_getElem?_getD, List.getElem?_eq_getElem h]
    rfl
  · rename_i h
    rw [if_pos (by omega), List.find?_eq_none]
    intro x hx hf
    apply h
    exact List.findIdx_lt_length_of_exists ⟨x, hx, hf⟩
theorem idx_lt {α : Type} (f : α → Bool) (l : List α) : idx f l < l.length ∧ -1 ≤ idx f l := by
  unfold idx; split <;> omega
/-- the first grant of an act that fits -/
def fst1 (l : List Gt) (a p : Int) (ts : List Int) : Option Gt := l.find? (fun g => decide (gA g = a) && fits g p ts)
def idx1 (l : List Gt) (a p : Int) (ts : List Int) : Int := idx (fun g => decide (gA g = a) && fits g p ts) l
def grain (l : List Gt) (p : Int) (ts : List Int) : Int := if OkP l then ((fst1 l 1 p ts).map gG).getD 0 else 0
def book (l : List Gt) (p : Int) (ts : List Int) : Bool := decide (OkP l) && (fst1 l 2 p ts).isSome
def rank (l : List Gt) (p : Int) (ts : List Int) : Int := if OkP l then ((fst1 l 3 p ts).map gR).getD (-1) else -1
def move (l : List Gt) (p : Int) (ts : List Int) (r : Int) : Bool := decide (0 ≤ rank l p ts) && decide (r ≤ rank l p ts)
theorem idx1_find (l : List Gt) (a p : Int) (ts : List Int) : fst1 l a p ts = if idx1 l a p ts < 0 then none else some (l.getD (idx1 l a p ts).toNat zG) := idx_find _ _ _
theorem fst1_mem {l : List Gt} {a p : Int} {ts : List Int} {g : Gt} (h : fst1 l a p ts = some g) : g ∈ l := List.mem_of_find?_eq_some h
end Go.Proofs.YtbbeldmcdjjnbaaDoor
