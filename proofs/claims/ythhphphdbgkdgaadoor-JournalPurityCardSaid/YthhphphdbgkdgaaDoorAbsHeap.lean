/-
  Rules on variables that hold handles: a slice in a field is given away, a nil slice in a field is taken as the call's own. No program is read here.
-/
import Derived.Test.YthhphphdbgkdgaaDoorAbsMore
namespace Go.Proofs.YthhphphdbgkdgaaDoor
open Go Go.RowKit
set_option linter.unusedSimpArgs false
set_option linter.unusedVariables false
section
variable {w0 : World} {X : Ownr} {n : Nat} {σ : AS} {β : Nat → Value} {a : Act} {w : World}
theorem RepH.set {O : Nat → Prop} : ∀ {vs : List V} {cs : List Value} {k : Nat} {v v' : V}, RepH w O β vs cs → vs[k]? = some v → (∀ u, RepV w O β v.t v.x u → RepV w O β v'.t v'.x u) → RepH w O β (vs.set k v') cs
  | [], _, _, _, _, _, h, _ => by simp at h
  | y :: r, _, 0, _, _, ⟨u, s, e, h2, h3, h4⟩, h, hv => by
    cases h
    exact ⟨u, s, e, h2, hv u h3, h4⟩
  | y :: r, _, k + 1, _, _, ⟨u, s, e, h2, h3, h4⟩, h, hv => ⟨u, s, e, h2, h3, RepH.set h4 (by simpa using h) hv⟩
/-- a slice of the call's own that is given away reads as a list -/
theorem Sim.viewOf (h : Sim w0 X n σ β a w) (hX : X.Ok w0) {i : Nat} {te : TypeId} {t : Ty} {xs : List t.T} (hi : Owns.get σ.E i = some (.buf te t xs)) : RepD w (OSet X ((i, none) :: σ.E) β) (.slice t) xs (β i) :=
  (h.own i _ hi).view (fun g _ hg => by
      rcases hg with hg | ⟨j, oj, h1, h2⟩
      · exact .inl hg
      · rw [Owns.get_cons] at h1
        by_cases hs : i = j
        · rw [if_pos hs] at h1; cases h1
        · rw [if_neg hs] at h1; exact .inr ⟨j, oj, h1, h2⟩) fun g hg hg' => by
      rcases hg' with hg' | ⟨j, oj, h1, h2⟩
      · have h3 := hX.1 g hg'
        rcases h.new i _ g hi hg with h4 | h4
        · omega
        · exact h3.2 h4
      · rw [Owns.get_cons] at h1
        by_cases hs : i = j
        · rw [if_pos hs] at h1; cases h1
        · rw [if_neg hs] at h1
          exact h.inj i j _ _ hi h1 hs g hg h2
/-- a field of a variable takes another plain value for what its cell holds -/
theorem Sim.leaf (h : Sim w0 X n σ β a w) {i k : Nat} {vs : List V} {v v' : V} (hi : Owns.get σ.E i = some (.hbox vs)) (hk : vs[k]? = some v) (hv : ∀ u, RepV w (OSet X σ.E β) β v.t v.x u → RepV w (OSet X σ.E β) β v'.t v'.x u) (hb : v'.bound ≤ σ.nx) :
    Sim w0 X n { σ with E := (i, some (.hbox (vs.set k v'))) :: σ.E } β a w := by
  refine h.write (w' := w) hi ⟨rfl, rfl, rfl, Nat.le_refl _, fun _ _ _ => rfl⟩ (fun _ => ?_) rfl ?_
  · obtain ⟨g, cs, ty, e, h1, h2, h3⟩ := h.own i _ hi
    exact ⟨g, cs, ty, e, h1, h2, h3.set hk hv⟩
  · intro ws e u hu
    cases e
    rcases List.mem_or_eq_of_mem_set hu with hu | rfl
    · exact h.hE i _ hi vs rfl u hu
    · exact hb
/-- a nil slice as the call's own -/
theorem Sim.growNil (h : Sim w0 X n σ β a w) (te : TypeId) (τ : Ty) (hτ : 0 < τ.size) : ∃ β', (∀ i, i < σ.nx → β' i = β i) ∧ β' σ.nx = .slice none 0 0 ∧ Sim w0 X n { σ with E := (σ.nx, some (.buf te τ [])) :: σ.E, nx := σ.nx + 1 } β' a w := by
  refine ⟨fun j => if j = σ.nx then .slice none 0 0 else β j, fun i hi => by simp [Nat.ne_of_lt hi], by simp, ?_⟩
  have hO := fun g => OSet.new (X := X) (β := β) (bv := .slice none 0 0) (o := .buf te τ []) h.lt g
  have hkeep : Keeps w w (OSet X σ.E β) (OSet X ((σ.nx, some (.buf te τ [])) :: σ.E) (fun j => if j = σ.nx then .slice none 0 0 else β j)) :=
    ⟨Nat.le_refl _, fun _ _ _ => rfl, fun g _ hg' => by
      rcases (hO g).1 hg' with h1 | h1
      · exact h1
      · cases h1⟩
  refine ⟨h.sz, h.df, h.bel, fun s => RepV.update _ _ _ (h.hb s) (RepV.keep hkeep _ _ _ (h.fr s)), fun i oi hi => ?_, fun i oi g hi => ?_, fun i j oi oj hi hj hij g => ?_, fun i oi hi => ?_, ⟨Nat.le_succ_of_le h.fix.1, fun i hi => ?_⟩, fun s => Nat.le_succ_of_le (h.hb s), fun i oi hi => ?_⟩
  · rw [show Owns.get ((σ.nx, some (.buf te τ [])) :: σ.E) i = _ from Owns.get_cons ..] at hi
    by_cases hs : σ.nx = i
    · subst hs
      rw [if_pos rfl] at hi
      cases hi
      show OwnRep _ _ _ _ (if σ.nx = σ.nx then _ else _) _
      rw [if_pos rfl]
      exact ⟨[], rfl, ⟨by simp, .inl ⟨rfl, rfl⟩⟩, hτ⟩
    · rw [if_neg hs] at hi
      show OwnRep _ _ _ _ (if i = σ.nx then _ else _) _
      rw [if_neg (Ne.symm hs)]
      exact ((h.own i oi hi).keep hkeep fun _ _ => rfl).update (h.hE i oi hi)
  · rw [show Owns.get ((σ.nx, some (.buf te τ [])) :: σ.E) i = _ from Owns.get_cons ..] at hi
    show blockOf (if i = σ.nx then _ else β i) = some g → _
    by_cases hs : σ.nx = i
    · rw [if_pos hs.symm]; intro hg; cases hg
    · rw [if_neg hs] at hi
      rw [if_neg (Ne.symm hs)]
      exact h.new i oi g hi
  · rw [show Owns.get ((σ.nx, some (.buf te τ [])) :: σ.E) i = _ from Owns.get_cons ..] at hi
    rw [show Owns.get ((σ.nx, some (.buf te τ [])) :: σ.E) j = _ from Owns.get_cons ..] at hj
    show blockOf (if i = σ.nx then _ else β i) = some g → blockOf (if j = σ.nx then _ else β j) ≠ some g
    by_cases h1 : σ.nx = i
    · rw [if_pos h1.symm]; intro hg; cases hg
    · rw [if_neg h1] at hi
      rw [if_neg (Ne.symm h1)]
      by_cases h2 : σ.nx = j
      · rw [if_pos h2.symm]; intro _ hg; cases hg
      · rw [if_neg h2] at hj
        rw [if_neg (Ne.symm h2)]
        exact h.inj i j oi oj hi hj hij g
  · rw [show Owns.get ((σ.nx, some (.buf te τ [])) :: σ.E) i = _ from Owns.get_cons ..] at hi
    show i < σ.nx + 1
    by_cases hs : σ.nx = i
    · omega
    · rw [if_neg hs] at hi
      have := h.lt i oi hi
      omega
  · obtain ⟨h2, h3⟩ := h.fix.2 i hi
    have hne : i ≠ σ.nx := by have := h.fix.1; omega
    refine ⟨?_, fun oi ho => ?_⟩
    · show blockOf (if i = σ.nx then _ else β i) = some (X.fix i)
      rw [if_neg hne]
      exact h2
    · rw [show Owns.get ((σ.nx, some (.buf te τ [])) :: σ.E) i = _ from Owns.get_cons .., if_neg (Ne.symm hne)] at ho
      exact h3 oi ho
  · rw [show Owns.get ((σ.nx, some (.buf te τ [])) :: σ.E) i = _ from Owns.get_cons ..] at hi
    by_cases hs : σ.nx = i
    · rw [if_pos hs] at hi; cases hi; intro _ e; cases e
    · rw [if_neg hs] at hi
      intro vs e v hv
      exact Nat.le_succ_of_le (h.hE i oi hi vs e v hv)
/-- the slice in a field is given away -/
def frzL (σ : AS) (i k : Nat) : AS :=
  match Owns.get σ.E i with
  | some (.hbox vs) => match vs[k]? with
    | some ⟨.obuf _, j⟩ => match Owns.get σ.E j with
      | some (.buf _ t xs) => { F := Frame.thaw j t xs σ.F, E := (i, some (.hbox (vs.set k ⟨.slice t, xs⟩))) :: (j, none) :: σ.E, nx := σ.nx }
      | _ => σ
    | _ => σ
  | _ => σ
theorem Sim.frzL (h : Sim w0 X n σ β a w) (hX : X.Ok w0) (i k : Nat) : Sim w0 X n (frzL σ i k) β a w := by
  unfold Go.Proofs.YthhphphdbgkdgaaDoor.frzL
  split
  · rename_i vs hi
    split
    · rename_i t0 j hk
      split
      · rename_i te t xs hj
        have h1 := h.freeze hX hj
        have hij : j ≠ i := fun e => by subst e; rw [hi] at hj; cases hj
        have hi' : Owns.get ((j, none) :: σ.E) i = some (.hbox vs) := by rw [Owns.get_cons, if_neg hij]; exact hi
        have hview := h.viewOf hX hj
        exact h1.leaf hi' hk (v' := ⟨.slice t, xs⟩) (fun u hu => by
          have hu : u = β j := hu
          rw [hu]
          exact repD_repV hview) (Nat.zero_le _)
      · exact h
    · exact h
  · exact h
end
section
variable {P : Program} {w0 : World} {X : Ownr} {n : Nat} {σ : AS} {Q : Exit → AS → Prop}
theorem AWP.frzL (hX : X.Ok w0) (i k : Nat) {c : Code} (h : AWP P w0 X n c (Go.Proofs.YthhphphdbgkdgaaDoor.frzL σ i k) Q) : AWP P w0 X n c σ Q := fun β a w hs => h β a w (hs.frzL hX i k)
/-- a nil slice in a field as the call's own -/
theorem AWP.nilLeaf (i k : Nat) (te : TypeId) (τ : Ty) {vs : List V} {c : Code} (hi : Owns.get σ.E i = some (.hbox vs)) (hk : vs[k]? = some ⟨.lit, .slice none 0 0⟩) (hτ : Nat.blt 0 τ.size = true)
    (h : AWP P w0 X n c { σ with E := (i, some (.hbox (vs.set k ⟨.obuf τ, σ.nx⟩))) :: (σ.nx, some (.buf te τ [])) :: σ.E, nx := σ.nx + 1 } Q) : AWP P w0 X n c σ Q := by
  intro β a w hs
  obtain ⟨β', h1, h2, h3⟩ := hs.growNil te τ (by simpa using hτ)
  have hlt := hs.lt i _ hi
  have hi' : Owns.get ((σ.nx, some (.buf te τ [])) :: σ.E) i = some (.hbox vs) := by rw [Owns.get_cons, if_neg (by omega)]; exact hi
  exact h β' a w (h3.leaf hi' hk (v' := ⟨.obuf τ, σ.nx⟩) (fun u hu => by
    have hu : u = .slice none 0 0 := hu
    show u = β' σ.nx
    rw [hu, h2]) (Nat.le_refl _))
end
end Go.Proofs.YthhphphdbgkdgaaDoor
