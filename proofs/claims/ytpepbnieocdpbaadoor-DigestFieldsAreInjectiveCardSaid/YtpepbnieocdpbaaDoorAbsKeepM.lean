/-
  A literal of bytes is converted to its own type: its block is marked, its cells stay. No program is read here.
-/
import Derived.Test.YtpepbnieocdpbaaDoorAbsSeq
namespace Go.Proofs.YtpepbnieocdpbaaDoor
open Go Go.RowKit
set_option linter.unusedSimpArgs false
set_option linter.unusedVariables false

/-! ### marks turn, cells stay -/
structure KeepsM (w w' : World) : Prop where
  size : w.heap.size ≤ w'.heap.size
  block : ∀ (g : Nat) cs ty fz, w.heap[g]? = some (.cells cs ty fz) → ∃ fz', w'.heap[g]? = some (.cells cs ty fz')
theorem KeepsM.of_below {w w' : World} (h : Below w.heap.size w w') : KeepsM w w' :=
  ⟨h.size, fun g cs ty fz hg => ⟨fz, (h.block g (Array.getElem?_eq_some_iff.1 hg).1).trans hg⟩⟩
section
variable {w w' : World} {O : Nat → Prop} {β : Nat → Value}
theorem CellsAt.keepM {g off : Nat} {vs : List Value} (h : CellsAt w g off vs) (hk : KeepsM w w') : CellsAt w' g off vs := fun j u hu => by
  have h1 := h j u hu
  unfold World.cell? at h1 ⊢
  simp only at h1 ⊢
  cases ho : w.heap[g]? with
  | none => simp [ho] at h1
  | some o =>
    cases o <;> first | (simp [ho] at h1; done) | skip
    rename_i cs ty fz
    obtain ⟨fz', h2⟩ := hk.block g cs ty fz ho
    rw [h2]
    rw [ho] at h1
    exact h1
theorem RepS.keepM {α : Type} {R R' : α → List Value → Prop} {xs : List α} {v : Value} (h : RepS w O R xs v) (hk : KeepsM w w') (hr : ∀ x c, R x c → R' x c) : RepS w' O R' xs v := by
  rcases h with h | ⟨g, off, c, vs, h1, h2, h3, h4, h5, h6, h7, h8⟩
  · exact .inl h
  · exact .inr ⟨g, off, c, vs, h1, h2, h3, h4, Nat.lt_of_lt_of_le h5 hk.size, h6, h7.mono fun x _ c => hr x c, h8.keepM hk⟩
theorem RepC.keepM (hk : KeepsM w w') : ∀ (t : Ty) (x : t.T) (cs : List Value), RepC w O t x cs → RepC w' O t x cs := by
  intro t
  induction t with
  | pair a b iha ihb => rintro x cs ⟨c1, c2, h, h1, h2⟩; exact ⟨c1, c2, h, iha _ _ h1, ihb _ _ h2⟩
  | arr n t ih => rintro x cs ⟨h1, h2⟩; exact ⟨h1, h2.mono fun x _ c => ih x c⟩
  | slice t ih => rintro x cs ⟨v, h, h2⟩; exact ⟨v, h, h2.keepM hk ih⟩
  | _ => intro x cs h; exact h
theorem RepD.keepM (hk : KeepsM w w') {t : Ty} {x : t.T} {v : Value} (h : RepD w O t x v) : RepD w' O t x v := by
  unfold RepD at *
  split at h
  · rename_i ht
    obtain ⟨cs, h1, h2⟩ := h
    rw [if_pos ht]
    exact ⟨cs, h1, RepC.keepM hk _ _ _ h2⟩
  · rename_i ht
    rw [if_neg ht]
    exact RepC.keepM hk _ _ _ h
theorem RepTup.keepM (hk : KeepsM w w') : ∀ (t : Ty) (x : t.T) (vs : List Value), RepTup w O t x vs → RepTup w' O t x vs := by
  intro t
  induction t with
  | tup a b iha ihb => rintro x vs ⟨v, r, h, h1, h2⟩; exact ⟨v, r, h, h1.keepM hk, ihb _ _ h2⟩
  | unit => intro x vs h; exact h
  | _ => intro x vs h; exact absurd h (by simp [RepTup])
theorem RepV.keepM (hk : KeepsM w w') : ∀ (t : Ty) (x : t.T) (v : Value), RepV w O β t x v → RepV w' O β t x v := by
  intro t
  induction t with
  | junk => intro x v h; exact h
  | lit => intro x v h; exact h
  | vptr t _ =>
    rintro x v ⟨g, off, cs, h1, h2, h3, h4, h5⟩
    exact ⟨g, off, cs, h1, Nat.lt_of_lt_of_le h2 hk.size, h3, RepC.keepM hk _ _ _ h4, h5.keepM hk⟩
  | optr t _ => intro x v h; exact h
  | obuf t _ => intro x v h; exact h
  | tup a b _ _ => rintro x v ⟨vs, h1, h2⟩; exact ⟨vs, h1, RepTup.keepM hk _ _ _ h2⟩
  | cond t ih => intro x v h; exact ⟨fun hc => ih _ _ (h.1 hc), h.2⟩
  | _ => intro x v h; exact RepD.keepM hk h
end
section
variable {P : Program} {K : Kn} {w0 : World} {X : Ownr} {n : Nat} {σ : AS} {β : Nat → Value} {a : Act} {w : World} {R : Exit → Act → World → Prop} {N : Act → World → Prop}
/-- what lay below B lies, and the world has not shrunk -/
structure Marked (W w w' : World) : Prop where
  os : w'.os = w.os
  tape : w'.tape = w.tape
  output : w'.output = w.output
  size : w.heap.size ≤ w'.heap.size
  block : ∀ k, k < W.heap.size → w'.heap[k]? = w.heap[k]?
theorem Marked.trans' {W w w' : World} (h : Marked W w w') (k : Below W.heap.size W w) : Below W.heap.size W w' :=
  ⟨h.os.trans k.os, h.tape.trans k.tape, h.output.trans k.output, Nat.le_trans k.size h.size, fun i hi => (h.block i hi).trans (k.block i hi)⟩
theorem Marked.of {W w w' : World} {g : Nat} (h : w.grownBy w' (some g)) (hg : W.heap.size ≤ g) (hs : W.heap.size ≤ w.heap.size) : Marked W w w' :=
  ⟨h.os, h.tape, h.output, h.size, fun k hk => h.block k (by omega) (fun e => by cases e; omega)⟩
theorem mark_run {s e g k c : Nat} {cs : Array Value} {te : TypeId} {fz : Nat × Nat} (hs : P.underlying s = some (.slice e)) (he : P.underlying e = some (.int .u8)) (hg : w.heap[g]? = some (.cells cs te fz)) :
    ∃ w2, (convert s s (.slice (some ⟨g, 0, none⟩) k c)).run P w = .ok (.slice (some ⟨g, 0, none⟩) k c) w2 ∧ w.grownBy w2 (some g) ∧ KeepsM w w2 := by
  have hsh : w.shape? g = some (te, cs.size) := by unfold World.shape?; rw [hg]
  refine ⟨w.freeze ⟨g, cs.size, none⟩ 1, by simp [convert, run_underlying hs, run_underlying he, markStringish, hsh], ?_, ?_⟩
  · unfold World.freeze
    rw [if_neg (by decide)]
    refine ⟨rfl, rfl, rfl, by simp, fun j _ hj => ?_⟩
    show (w.heap.modify g _)[j]? = _
    rw [Array.getElem?_modify, if_neg (fun e => hj (by rw [e]))]
  · unfold World.freeze
    rw [if_neg (by decide)]
    refine ⟨by simp, fun j cs' ty' fz' hj => ?_⟩
    show ∃ fz2, (w.heap.modify g _)[j]? = _
    rw [Array.getElem?_modify]
    by_cases hgj : g = j
    · subst hgj
      rw [if_pos rfl, hj]
      exact ⟨_, rfl⟩
    · rw [if_neg hgj]
      exact ⟨fz', hj⟩
/-- a block that the call made and no longer owns is marked -/
theorem Sim.mark {w2 : World} (h : Sim w0 X n σ β a w) {g : Nat} (hk : KeepsM w w2) (hm : w.grownBy w2 (some g)) (hnew : w0.heap.size ≤ g ∨ X.R g) (hno : ∀ i o, Owns.get σ.E i = some o → blockOf (β i) ≠ some g) : Sim w0 X n σ β a w2 :=
  ⟨h.sz, h.df, h.bel.grown hm (fun g' e => by cases e; exact hnew), fun s => RepV.keepM hk _ _ _ (h.fr s), fun i o hi => by
    have hb : ∀ g', blockOf (β i) = some g' → w2.heap[g']? = w.heap[g']? := fun g' hg' => hm.block g' ((h.own i o hi).block_lt hg').2 fun e => hno i o hi (by rw [hg', e])
    have h1 := h.own i o hi
    cases o with
    | box t x =>
      obtain ⟨g', cs, ty, e, h2, h3, h4⟩ := h1
      exact ⟨g', cs, ty, e, h2, (hb g' (by rw [e]; rfl)).trans h3, RepC.keepM hk _ _ _ h4⟩
    | buf te t xs =>
      obtain ⟨cs, h2, h3, h4⟩ := h1
      refine ⟨cs, h2.mono fun x _ c => RepC.keepM hk _ _ _, ⟨h3.1, ?_⟩, h4⟩
      rcases h3.2 with h5 | ⟨g', cap, cur, e, h5, h6, h7⟩
      · exact .inl h5
      · exact .inr ⟨g', cap, cur, e, h5, (hb g' (by rw [e]; rfl)).trans h6, h7⟩, h.new, h.inj, h.lt, h.fix, h.hb⟩
theorem markS_wp (hK : KnOk P X.G K) (hX : X.Ok w0) (h : Sim w0 X n σ β a w) {o : Oper} {r : List Prop × AS} (hs : markS K n o σ = some r) (hp : allP r.1)
    (hN : ∀ β' a' w', Sim w0 X n r.2 β' a' w' → N a' w') : o.wp P a w N R := by
  obtain ⟨F, E, nx⟩ := σ
  simp only [markS] at hs
  split at hs <;> first | (cases hs; done) | skip
  rename_i s t x d hop hdst
  split at hs <;> first | (cases hs; done) | skip
  rename_i τ' i hx
  split at hs <;> first | (cases hs; done) | skip
  rename_i te xs hi
  split at hs <;> first | (cases hs; done) | skip
  rename_i hc
  cases hs
  simp only [Bool.and_eq_true] at hc
  have e := Nat.eq_of_beq_eq_true hc.1.1
  subst e
  have hd : d < n := by simpa using hc.2
  rw [allP_append] at hp
  have hpx : 0 < List.length xs := hp.2
  have hu := strip_rep (h.ops x) hp.1
  rw [hx] at hu
  have hu : a.eval x = β i := hu
  have hown := h.own i _ hi
  obtain ⟨cs, h1, h2, h3⟩ := hown
  obtain ⟨e, hut, _, he⟩ := hK.t.is hc.1.2
  rcases h2.2 with ⟨_, h4⟩ | ⟨g, cap, cur, hb, h5, h6, h7⟩
  · exact absurd h4 (by omega)
  · have hbl : blockOf (β i) = some g := by rw [hb]; rfl
    obtain ⟨w2, k1, k2, k3⟩ := mark_run (P := P) (k := xs.length) (c := cap) hut he.1 h6
    have hf := h.freeze hX hi
    have hf2 := hf.mark k3 k2 (h.new i _ g hi hbl) fun j oj hj hg => by
      rw [show Owns.get ((i, none) :: E) j = _ from Owns.get_cons ..] at hj
      by_cases hij : i = j
      · rw [if_pos hij] at hj; cases hj
      · rw [if_neg hij] at hj
        exact h.inj i j _ _ hi hj hij g hbl hg
    have hv : RepV w2 (OSet X ((i, none) :: E) β) β (.slice (.int .u8)) xs (β i) := by
      have hno : ∀ g, blockOf (β i) = some g → ¬ OSet X ((i, none) :: E) β g := fun g hg hg' => by
        rcases hg' with hg' | ⟨j, oj, h1, h2⟩
        · have h3 := hX.1 g hg'
          rcases h.new i _ g hi hg with h4 | h4
          · omega
          · exact h3.2 h4
        · rw [Owns.get_cons] at h1
          by_cases hs : i = j
          · rw [if_pos hs] at h1; cases h1
          · rw [if_neg hs] at h1
            exact h.inj i j _ _ hi h1 hs g hg h2
      have hview : RepD w (OSet X ((i, none) :: E) β) (.slice (.int .u8)) xs (β i) := (h.own i _ hi).view (fun g _ hg => by
        rcases hg with hg | ⟨j, oj, h1, h2⟩
        · exact .inl hg
        · rw [Owns.get_cons] at h1
          by_cases hs : i = j
          · rw [if_pos hs] at h1; cases h1
          · rw [if_neg hs] at h1; exact .inr ⟨j, oj, h1, h2⟩) hno
      exact RepV.keepM k3 _ _ _ (repD_repV hview)
    have hput := hf2.put (Below.refl _ _) (v := ⟨.slice (.int .u8), xs⟩) hv (Nat.zero_le _) hd
    refine wp_run (u := β i) (w' := w2) ?_ ?_
    · unfold execOp
      rw [hop]
      rw [← hb] at k1
      rw [← hu] at k1 ⊢
      exact run_v k1
    · rw [hdst]
      exact hN β _ _ hput
end
end Go.Proofs.YtpepbnieocdpbaaDoor
