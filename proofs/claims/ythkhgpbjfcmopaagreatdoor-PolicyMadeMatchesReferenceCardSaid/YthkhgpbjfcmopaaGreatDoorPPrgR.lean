/-
  Package policy: Parse: the range over the lines.
-/
import Derived.Test.YthkhgpbjfcmopaaGreatDoorPPrgQ
namespace Go.Proofs.YthkhgpbjfcmopaaGreatDoor
open Go Go.RowKit
set_option linter.unusedSimpArgs false
set_option linter.unusedVariables false
set_option linter.unusedSimpArgs false
set_option linter.unusedVariables false
set_option maxRecDepth 100000
noncomputable def pAsgn : Code := match findR (Tryz.f30.body.getD .skip) with
  | some r => r.1
  | none => .skip
section
variable {B W : World} {X : Ownr} {n : Nat} {σ : AS} {β : Nat → Value} {a : Act}
theorem box_at (h : Sim B X n σ β a W) {i : Nat} (hi : i < X.K) {t : Ty} {x : t.T} (hE : Owns.get σ.E i = some (.box t x)) : ∃ cs ty, W.heap[X.fix i]? = some (.cells (List.toArray cs) ty (0, 0)) ∧ RepC W (OSet X σ.E β) t x cs := by
  obtain ⟨g, cs, ty, q1, _, q2, q3⟩ := h.own i _ hE
  have q4 := (h.fix.2 i hi).1
  rw [q1] at q4
  have q4 : g = X.fix i := by simpa [blockOf] using q4
  subst q4
  exact ⟨cs, ty, q2, q3⟩
theorem hbox_at (h : Sim B X n σ β a W) {i : Nat} (hi : i < X.K) {v : V} (hE : Owns.get σ.E i = some (.hbox [v])) : ∃ u ty, W.heap[X.fix i]? = some (.cells #[u] ty (0, 0)) ∧ u.oneCell' = true ∧ RepV W (OSet X σ.E β) β v.t v.x u := by
  obtain ⟨g, cs, ty, q1, _, q2, u, r, rfl, q5, q6, q7⟩ := h.own i _ hE
  have q7 : r = [] := q7
  subst q7
  have q4 := (h.fix.2 i hi).1
  rw [q1] at q4
  have q4 : g = X.fix i := by simpa [blockOf] using q4
  subst q4
  exact ⟨u, ty, q2, q5, q6⟩
end
/-- the frame of a round -/
def rAct0P (a : Act) (x : Value) : Act := { tmps := ((#[16] : Array Tmp).zip #[x]).foldl (fun t (p, v) => t.setIfInBounds p v) a.tmps, defers := [] }
def rActP (a : Act) (x : Value) : Act := (rAct0P a x).put (some 6) ((rAct0P a x).eval (.tmp 16))
theorem rAct0P_get {a : Act} {x : Value} (hsz : a.tmps.size = 42) (s : Nat) : (rAct0P a x).tmps.getD s undef = if 16 = s then x else a.tmps.getD s undef := by
  have : (rAct0P a x).tmps = a.tmps.setIfInBounds 16 x := by simp [rAct0P]
  rw [this]
  by_cases h : 16 = s
  · subst h
    rw [if_pos rfl]
    simp [Array.getD_eq_getD_getElem?, Array.getElem?_setIfInBounds, hsz]
  · rw [if_neg h]
    simp [Array.getD_eq_getD_getElem?, Array.getElem?_setIfInBounds, h]
theorem rActP_size {a : Act} {x : Value} (hsz : a.tmps.size = 42) : (rActP a x).tmps.size = 42 := by
  rw [rActP, Act.put_size]
  simp [rAct0P, hsz]
theorem rActP_get {a : Act} {x : Value} (hsz : a.tmps.size = 42) (s : Nat) : (rActP a x).tmps.getD s undef = if 6 = s then x else if 16 = s then x else a.tmps.getD s undef := by
  rw [rActP, Act.put_get (by simp [rAct0P, hsz])]
  split
  · show (rAct0P a x).tmps.getD 16 undef = x
    rw [rAct0P_get hsz, if_pos rfl]
  · exact rAct0P_get hsz s
section
variable {w w5 : World} {O : Nat → Prop} {N : Nat} {s : List UInt8} {t0 t1 t2 t3 : TypeId} {a5 : Act}
def pI2 (N D : Nat) (g : Nat) : Prop := itI (N + 4) (N + 5) (N + 6) g ∨ g = D ∨ g = D + 1
def pO (O : Nat → Prop) (N D : Nat) (g : Nat) : Prop := O g ∨ pI2 N D g
def pFix (N : Nat) : Nat → Nat := fixP N (N + 1) (N + 1 + 1) (N + 1 + 1 + 1)
/-- a world to count from -/
def pBB (w5 : World) (N : Nat) (B : World) : Prop := B.heap.size = w5.heap.size + 2 ∧ Kept (pI2 N w5.heap.size) w5 B
theorem pR {N : Nat} {O' : Nat → Prop} {D : List Deferred} {ρ : Option Nat} {g : Nat} (h : (XP O' (pFix N) D ρ).R g) : N ≤ g ∧ g ≤ N + 3 := by
  obtain ⟨i, hi, rfl⟩ := h
  have hi : i < 4 := hi
  show N ≤ pFix N i ∧ pFix N i ≤ N + 3
  rcases (show i = 0 ∨ i = 1 ∨ i = 2 ∨ i = 3 by omega) with rfl | rfl | rfl | rfl <;> simp [pFix, fixP] <;> omega
theorem pBB_below (hN : N = w.heap.size) (hs5 : w5.heap.size = N + 7) (hb5 : Below w.heap.size w w5) {B : World} (h : pBB w5 N B) : Below w.heap.size w B :=
  ⟨h.2.os.trans hb5.os, h.2.tape.trans hb5.tape, h.2.output.trans hb5.output, Nat.le_trans hb5.size h.2.size, fun k hk => (h.2.block k (Nat.lt_of_lt_of_le hk hb5.size) (by unfold pI2 itI; omega)).trans (hb5.block k hk)⟩
theorem pBB_end (hN : N = w.heap.size) (hs5 : w5.heap.size = N + 7) (hb5 : Below w.heap.size w w5) {B W : World} (h : pBB w5 N B) {O' : Nat → Prop} {D : List Deferred} {ρ : Option Nat} (hk : Kept (XP O' (pFix N) D ρ).R B W) : Below w.heap.size w W :=
  have hb := pBB_below hN hs5 hb5 h
  ⟨hk.os.trans hb.os, hk.tape.trans hb.tape, hk.output.trans hb.output, Nat.le_trans hb.size hk.size, fun k hkl => (hk.block k (Nat.lt_of_lt_of_le hkl hb.size) fun hr => by have := (pR hr).1; omega).trans (hb.block k hkl)⟩
theorem pX_ok (hN : N = w.heap.size) (hO : ∀ g, O g → g < w.heap.size) (hG : pH w) (hs5 : w5.heap.size = N + 7) (hb5 : Below w.heap.size w w5) {B : World} (h : pBB w5 N B) (D : List Deferred) (ρ : Option Nat) : (XP (pO O N w5.heap.size) (pFix N) D ρ).Ok B := by
  have hs := h.1
  refine ⟨fun g hg => ?_, fun g hg => ?_, fun w' hk => pH_st _ _ hG (pBB_end hN hs5 hb5 h hk)⟩
  · have hg : O g ∨ (g = N + 4 ∨ g = N + 5 ∨ g = N + 6) ∨ g = w5.heap.size ∨ g = w5.heap.size + 1 := hg
    refine ⟨?_, fun hr => ?_⟩
    · rcases hg with h1 | h1
      · have := hO g h1; omega
      · omega
    · have := pR hr
      rcases hg with h1 | h1
      · have := hO g h1; omega
      · omega
  · have := pR hg
    omega
theorem pX_pN (hN : N = w.heap.size) (hG : pH w) (hs5 : w5.heap.size = N + 7) {B : World} (h : pBB w5 N B) (O' : Nat → Prop) (D : List Deferred) (ρ : Option Nat) : ∀ (w' : World) (g : Nat), (B.heap.size ≤ g ∨ (XP O' (pFix N) D ρ).R g) → pH w' → pN w' g := by
  intro w' g hg _
  have hl := pH_lt hG
  have hs := h.1
  have : N ≤ g := by
    rcases hg with h1 | h1
    · omega
    · exact (pR h1).1
  exact ⟨fun e => hl.1 (by omega), fun e => hl.2 (by omega)⟩
end
end Go.Proofs.YthkhgpbjfcmopaaGreatDoor
