/-
  A state's handles are numbered anew. No program is read here.
  Variables of a function's type: made, written, read. No program is read here.
  Arrays of pointers in slots: an element, a comparison with nil; a call met by hand. No program is read here.
  Operations that do the same, one in the other's place. No program is read here.
  A variable pinned to its block; arrays of functions; a variable of two cells made by hand. No program is read here.
-/
import Derived.Test.YtbbeldmcdjjnbaaDoorAbsFor
import Derived.Test.YtbbeldmcdjjnbaaDoorAbsOwn
namespace Go.Proofs.YtbbeldmcdjjnbaaDoor
open Go Go.RowKit
set_option linter.unusedSimpArgs false
set_option linter.unusedVariables false
/-- old numbers to new ones; all others go out of the way -/
def rnF : List (Nat × Nat) → Nat → Nat
  | [], i => i + 100
  | (a, b) :: r, i => bif Nat.beq a i then b else rnF r i
def rnB : List (Nat × Nat) → Nat → Nat
  | [], j => j - 100
  | (a, b) :: r, j => bif Nat.beq b j then a else rnB r j
def rnOk : List (Nat × Nat) → Bool
  | [] => true
  | (_, b) :: r => Nat.blt b 100 && r.all (fun p => !Nat.beq p.2 b) && rnOk r
theorem rnF_mem : ∀ (L : List (Nat × Nat)) (i : Nat), (∃ p ∈ L, p.2 = rnF L i) ∨ 100 ≤ rnF L i
  | [], i => .inr (by simp only [rnF]; omega)
  | (a, b) :: r, i => by
    simp only [rnF, cond_eq_ite, Nat.beq_eq]
    split
    · exact .inl ⟨(a, b), List.mem_cons_self .., rfl⟩
    · rcases rnF_mem r i with ⟨p, h1, h2⟩ | h
      · exact .inl ⟨p, List.mem_cons_of_mem _ h1, h2⟩
      · exact .inr h
theorem rnB_F : ∀ (L : List (Nat × Nat)) (i : Nat), rnOk L = true → rnB L (rnF L i) = i
  | [], i, _ => by simp only [rnF, rnB]; omega
  | (a, b) :: r, i, h => by
    simp only [rnOk, Bool.and_eq_true] at h
    obtain ⟨⟨h1, h2⟩, h3⟩ := h
    have h1 : b < 100 := by simpa using h1
    simp only [rnF, rnB, cond_eq_ite, Nat.beq_eq]
    by_cases e : a = i
    · rw [if_pos e, if_pos rfl, e]
    · rw [if_neg e, if_neg]
      · exact rnB_F r i h3
      · intro e2
        rcases rnF_mem r i with ⟨p, h4, h5⟩ | h4
        · have h6 := List.all_eq_true.1 h2 p h4
          rw [h5, ← e2] at h6
          simp at h6
        · omega
def rnV (L : List (Nat × Nat)) : V → V
  | ⟨.optr t, p⟩ => ⟨.optr t, { p with i := rnF L p.i }⟩
  | ⟨.obuf t, j⟩ => ⟨.obuf t, rnF L j⟩
  | ⟨.hptr, x⟩ => ⟨.hptr, (rnF L x.1, x.2)⟩
  | ⟨.cond _, _⟩ => ⟨.junk, ()⟩
  | ⟨.hcons _ _, _⟩ => ⟨.junk, ()⟩
  | v => v
def rnVs (L : List (Nat × Nat)) : List V → List V
  | [] => []
  | v :: r => rnV L v :: rnVs L r
def rnFr (L : List (Nat × Nat)) : List (Nat × V) → List (Nat × V)
  | [] => []
  | (s, v) :: r => (s, rnV L v) :: rnFr L r
def rnO (L : List (Nat × Nat)) : OObj → OObj
  | .hbox vs => .hbox (rnVs L vs)
  | o => o
def rnE (L : List (Nat × Nat)) : List (Nat × Option OObj) → List (Nat × Option OObj)
  | [] => []
  | (i, some o) :: r => (rnF L i, some (rnO L o)) :: rnE L r
  | (i, none) :: r => (rnF L i, none) :: rnE L r
section
variable {w0 w : World} {X : Ownr} {n : Nat} {σ : AS} {β : Nat → Value} {a : Act} {L : List (Nat × Nat)}
theorem rnV_rep (hL : rnOk L = true) {O : Nat → Prop} : ∀ (v : V) {u : Value}, RepV w O β v.t v.x u → RepV w O (fun j => β (rnB L j)) (rnV L v).t (rnV L v).x u := by
  rintro ⟨t, x⟩ u h
  cases t with
  | optr t =>
    obtain ⟨g, h1, h2⟩ := h
    refine ⟨g, ?_, h2⟩
    show blockOf (β (rnB L (rnF L x.i))) = some g
    rw [rnB_F L _ hL]
    exact h1
  | obuf t =>
    have h : u = β x := h
    show u = β (rnB L (rnF L x))
    rw [rnB_F L _ hL]
    exact h
  | hptr =>
    obtain ⟨g, h1, h2⟩ := h
    refine ⟨g, ?_, h2⟩
    show blockOf (β (rnB L (rnF L x.1))) = some g
    rw [rnB_F L _ hL]
    exact h1
  | cond t => trivial
  | hcons a b => trivial
  | _ => exact h
theorem rnVs_rep (hL : rnOk L = true) {O : Nat → Prop} : ∀ {vs : List V} {cs : List Value}, RepH w O β vs cs → RepH w O (fun j => β (rnB L j)) (rnVs L vs) cs
  | [], _, h => h
  | v :: r, _, ⟨u, s, h1, h2, h3, h4⟩ => ⟨u, s, h1, h2, rnV_rep hL v h3, rnVs_rep hL h4⟩
theorem rnO_isBuf (o : OObj) : (rnO L o).isBuf = o.isBuf := by cases o <;> rfl
theorem rnFr_get (F : List (Nat × V)) (s : Nat) : Frame.get (rnFr L F) s = rnV L (Frame.get F s) := by
  induction F with
  | nil => rfl
  | cons p r ih =>
    obtain ⟨d, v⟩ := p
    simp only [rnFr, Frame.get_cons]
    split
    · rfl
    · exact ih
theorem rnE_get (hL : rnOk L = true) : ∀ (E : List (Nat × Option OObj)) (j : Nat) (o' : OObj), Owns.get (rnE L E) j = some o' → ∃ o, j = rnF L (rnB L j) ∧ Owns.get E (rnB L j) = some o ∧ o' = rnO L o
  | [], _, _, h => by cases h
  | (i, q) :: r, j, o', h => by
    have e : rnE L ((i, q) :: r) = (rnF L i, q.map (rnO L)) :: rnE L r := by cases q <;> rfl
    rw [e, Owns.get_cons] at h
    by_cases hj : rnF L i = j
    · rw [if_pos hj] at h
      cases q with
      | none => cases h
      | some o =>
        cases h
        subst hj
        rw [rnB_F L i hL, Owns.get_cons, if_pos rfl]
        exact ⟨o, rfl, rfl, rfl⟩
    · rw [if_neg hj] at h
      obtain ⟨o, h1, h2, h3⟩ := rnE_get hL r j o' h
      refine ⟨o, h1, ?_, h3⟩
      rw [Owns.get_cons, if_neg]
      · exact h2
      · intro e2
        rw [← e2] at h1
        exact hj h1.symm
theorem Sim.rename (h : Sim w0 X n σ β a w) (hL : rnOk L = true) (hK : X.K = 0) {m : Nat} (hF : bndB m (rnFr L σ.F) = true) (hE : bndE m (rnE L σ.E) = true) : Sim w0 X n ⟨rnFr L σ.F, rnE L σ.E, m⟩ (fun j => β (rnB L j)) a w := by
  have hO : ∀ g, OSet X (rnE L σ.E) (fun j => β (rnB L j)) g → OSet X σ.E β g := by
    rintro g (hg | ⟨j, o', h1, h2⟩)
    · exact .inl hg
    · obtain ⟨o, _, h4, _⟩ := rnE_get hL _ _ _ h1
      exact .inr ⟨_, o, h4, h2⟩
  have hk : Keeps w w (OSet X σ.E β) (OSet X (rnE L σ.E) (fun j => β (rnB L j))) := ⟨Nat.le_refl _, fun _ _ _ => rfl, fun g _ hg => hO g hg⟩
  refine ⟨h.sz, h.df, h.bel, fun s => ?_, fun j o' hj => ?_, fun j o' g hj hg => ?_, fun i j oi oj hi hj hij g => ?_, fun j o' hj => bndE_get hE hj, ⟨by rw [hK]; exact Nat.zero_le _, fun i hi => by rw [hK] at hi; cases hi⟩, fun s => bndB_get hF s, fun j o' hj => (bndE_both hE hj).2⟩
  · show RepV w _ _ (Frame.get (rnFr L σ.F) s).t (Frame.get (rnFr L σ.F) s).x _
    rw [rnFr_get]
    exact rnV_rep hL _ (RepV.keep hk _ _ _ (h.fr s))
  · obtain ⟨o, _, h2, rfl⟩ := rnE_get hL _ _ _ hj
    have h3 := (h.own _ o h2).keep hk fun _ _ => rfl
    cases o with
    | hbox vs =>
      obtain ⟨g, cs, ty, e, k1, k2, k3⟩ := h3
      exact ⟨g, cs, ty, e, k1, k2, rnVs_rep hL k3⟩
    | box t x => exact h3
    | buf te t xs => exact h3
  · obtain ⟨o, _, h2, _⟩ := rnE_get hL _ _ _ hj
    exact h.new _ o g h2 hg
  · obtain ⟨p, e1, h1, _⟩ := rnE_get hL _ _ _ hi
    obtain ⟨q, e2, h2, _⟩ := rnE_get hL _ _ _ hj
    exact h.inj _ _ p q h1 h2 (fun e => hij (by rw [e1, e2, e])) g
theorem AWPD.rename {P : Program} {G : World → Prop} {O : Nat → Prop} {c : Code} {Q : Exit → AS → Prop} (L : List (Nat × Nat)) (m : Nat) (h : AWPD P w0 G O n c ⟨rnFr L σ.F, rnE L σ.E, m⟩ Q) (hL : rnOk L = true := by rfl) (hF : bndB m (rnFr L σ.F) = true := by rfl) (hE : bndE m (rnE L σ.E) = true := by rfl) : AWPD P w0 G O n c σ Q :=
  fun ds β a w hs hm => h ds _ a w (hs.rename hL rfl hF hE) hm
/-- two ways to one state -/
theorem AWPD.join {P : Program} {G : World → Prop} {O : Nat → Prop} {x y : Code} {σ' : AS} {Q : Exit → AS → Prop} (h1 : AWPD P w0 G O n x σ (thenQ (fun s => Fit s σ') Q)) (h2 : AWPD P w0 G O n y σ' Q) : AWPD P w0 G O n (.seq x y) σ Q :=
  fun ds β a w hs hm => wpIn_seq (Go.wpIn_mono (h1 ds β a w hs hm) fun e a w ⟨σ1, β1, ds1, k1, k2, k3⟩ => by
    cases e with
    | normal => exact h2 ds1 β1 a w (k1.fit k3 (Nat.zero_le _)) k2
    | _ => exact ⟨σ1, β1, ds1, k1, k2, k3⟩)
end
end Go.Proofs.YtbbeldmcdjjnbaaDoor
namespace Go.Proofs.YtbbeldmcdjjnbaaDoor
open Go Go.RowKit
set_option linter.unusedSimpArgs false
set_option linter.unusedVariables false
structure FnTy (P : Program) (t : TypeId) : Prop where
  size : ∀ w, (sizeOf t).run P w = .ok 1 w
  agg : ∀ w, (Go.isAgg t).run P w = .ok false w
  alloc : ∀ (w : World) (ev : Operand → Value) (o : Oper), o.op = .alloc t → (execOp ev o).run P w = .ok (.value (.pointer (some ⟨w.heap.size, 0, none⟩))) (w.alloc (.cells #[.nilFunc] t (0, 0)))
section
variable {P : Program} {K : Kn} {w0 : World} {X : Ownr} {n : Nat} {F : List (Nat × V)} {E : Owns} {nx : Nat} {Q : Exit → AS → Prop} {ops : Array Oper}
theorem newF_wp {t : TypeId} (ht : FnTy P t) (hX : X.Ok w0) {o : Oper} (ho : o.op = .alloc t) {d : Nat} (hd : o.dst = some d) (hdn : Nat.blt d n = true) {N : AS → Prop} (h : N ⟨(d, ⟨.hptr, (nx, (0 : Nat))⟩) :: F, (nx, some (.hbox [⟨.lit, .nilFunc⟩])) :: E, nx + 1⟩)
    (β : Nat → Value) (a : Act) (w : World) (hs : Sim w0 X n ⟨F, E, nx⟩ β a w) : o.wp P a w (fun a' w' => ∃ σ' β', Sim w0 X n σ' β' a' w' ∧ N σ') (fun e a' w' => e ≠ .outgrown ∧ ∃ σ' β', Sim w0 X n σ' β' a' w' ∧ Q e σ') := by
  have hlt : d < n := by simpa using hdn
  refine wp_run (u := .pointer (some ⟨w.heap.size, 0, none⟩)) (w' := w.alloc (.cells #[.nilFunc] t (0, 0))) ?_ ?_
  · exact ht.alloc w a.eval o ho
  · rw [hd]
    obtain ⟨β', h1⟩ := hs.make hX ((Below.refl _ w).alloc (Nat.le_refl _) (.cells #[.nilFunc] t (0, 0))) (bv := .pointer (some ⟨w.heap.size, 0, none⟩)) (o := .hbox [⟨.lit, .nilFunc⟩])
      (fun O β' _ => ⟨w.heap.size, [.nilFunc], t, rfl, Nat.zero_le _, World.alloc_heap_new w _, ⟨.nilFunc, [], rfl, rfl, rfl, rfl⟩⟩) (fun g hg => by cases hg; exact Nat.le_refl _) (v := ⟨.hptr, (nx, (0 : Nat))⟩) (u := .pointer (some ⟨w.heap.size, 0, none⟩))
      (fun O β' hb => ⟨w.heap.size, by show blockOf (β' nx) = _; rw [show β' nx = _ from hb]; rfl, rfl⟩) (Nat.le_refl _) hlt (fun vs e v hv => by cases e; rw [List.mem_singleton.1 hv]; exact Nat.zero_le _)
    exact ⟨_, β', h1, h⟩
theorem setF_wp {t : TypeId} (ht : FnTy P t) {o : Oper} {p x : Operand} (ho : o.op = .store t p x) (hd : o.dst = none) {i : Nat} (hp : evO F p = ⟨.hptr, (i, (0 : Nat))⟩) {v0 : V} (hE : Owns.get E i = some (.hbox [v0])) {f : Nat} {c : Ty} {z : c.T} (hx : evO F x = ⟨.clo f c, z⟩)
    {N : AS → Prop} (h : N ⟨F, (i, some (.hbox [⟨.clo f c, z⟩])) :: E, nx⟩)
    (β : Nat → Value) (a : Act) (w : World) (hs : Sim w0 X n ⟨F, E, nx⟩ β a w) : o.wp P a w (fun a' w' => ∃ σ' β', Sim w0 X n σ' β' a' w' ∧ N σ') (fun e a' w' => e ≠ .outgrown ∧ ∃ σ' β', Sim w0 X n σ' β' a' w' ∧ Q e σ') := by
  have h1 := hs.ops p
  rw [show evO (AS.mk F E nx).F p = _ from hp] at h1
  obtain ⟨g, hg1, hg2⟩ := h1
  obtain ⟨g', cs, ty, e1, _, e3, u0, s0, e4, hu0, _, e5⟩ := hs.own _ _ hE
  have e5 : s0 = [] := e5
  subst e5
  subst e4
  have hgg : g' = g := by
    have hg1 : blockOf (β i) = some g := hg1
    rw [e1] at hg1
    simpa [blockOf] using hg1
  subst hgg
  have h2 := hs.ops x
  rw [show evO (AS.mk F E nx).F x = _ from hx] at h2
  obtain ⟨vs, h3, h4⟩ : ∃ vs, a.eval x = .func (.func f) #[] (List.toArray vs) ∧ RepCap w (OSet X E β) c z vs := h2
  have hcl : (a.eval x).cells.toList = [a.eval x] := by rw [h3]; rfl
  have hone : ∀ y ∈ [a.eval x], y.oneCell' = true := fun y hy => by rw [List.mem_singleton.1 hy, h3]; rfl
  have hrun : (Instr.storeAt t (.pointer (some ⟨g', 0, none⟩)) (a.eval x)).run P w = .ok () (w.setRow g' (over [u0] 0 [a.eval x]).toArray) := by
    have hrun := run_storeCells_at P g' 0 ty [a.eval x] 0 (List.toArray [u0]) w e3 (by simp) hone
    simp only [Nat.add_zero] at hrun
    unfold Instr.storeAt Instr.sureAddr storeVar
    simp only [Sem.run_bind, Sem.run_pure, Result.andThen_ok, ht.size]
    have hsz : (a.eval x).cells.size = 1 := by rw [← Array.length_toList, hcl]; rfl
    rw [if_neg (by rw [hsz]; simp)]
    have hca : (a.eval x).cells = [a.eval x].toArray := by rw [← hcl]
    rw [hca]
    exact hrun
  unfold Oper.wp
  have e : (execOp a.eval o).run P w = .ok .skip (w.setRow g' (over [u0] 0 [a.eval x]).toArray) := by
    unfold execOp
    simp only [ho]
    rw [hg2]
    simp [hrun]
  rw [e]
  show ∃ σ' β', Sim w0 X n σ' β' (a.put o.dst undef) _ ∧ N σ'
  rw [hd]
  refine ⟨_, β, hs.write (o' := .hbox [⟨.clo f c, z⟩]) hE (by rw [e1]; exact grownBy_row w g' _) (fun hk => ?_) rfl ?_, h⟩
  · refine ⟨g', over [u0] 0 [a.eval x], ty, e1, Nat.zero_le _, setRow_heap w g' [u0].toArray _ ty _ e3, ?_⟩
    have h5 : RepH w (OSet X E β) β [⟨.clo f c, z⟩] (over [u0] 0 [a.eval x]) := ⟨a.eval x, [], rfl, by rw [h3]; rfl, ⟨vs, h3, h4⟩, rfl⟩
    exact h5.keep hk
  · intro ws e v hv
    cases e
    rw [List.mem_singleton.1 hv]
    exact Nat.zero_le _
theorem getF_wp {t : TypeId} (ht : FnTy P t) {o : Oper} {p : Operand} (ho : o.op = .load t p) {d : Nat} (hd : o.dst = some d) (hdn : Nat.blt d n = true) {i : Nat} (hp : evO F p = ⟨.hptr, (i, (0 : Nat))⟩) {v0 : V} (hE : Owns.get E i = some (.hbox [v0])) {N : AS → Prop} (h : N ⟨(d, v0) :: F, E, nx⟩)
    (β : Nat → Value) (a : Act) (w : World) (hs : Sim w0 X n ⟨F, E, nx⟩ β a w) : o.wp P a w (fun a' w' => ∃ σ' β', Sim w0 X n σ' β' a' w' ∧ N σ') (fun e a' w' => e ≠ .outgrown ∧ ∃ σ' β', Sim w0 X n σ' β' a' w' ∧ Q e σ') := by
  have hlt : d < n := by simpa using hdn
  have h1 := hs.ops p
  rw [show evO (AS.mk F E nx).F p = _ from hp] at h1
  obtain ⟨g, hg1, hg2⟩ := h1
  obtain ⟨g', cs, ty, e1, _, e3, u0, s0, e4, hu0, hv0, e5⟩ := hs.own _ _ hE
  have e5 : s0 = [] := e5
  subst e5
  subst e4
  have hgg : g' = g := by
    have hg1 : blockOf (β i) = some g := hg1
    rw [e1] at hg1
    simpa [blockOf] using hg1
  subst hgg
  have hcell : w.cell? ⟨g', 0, none⟩ = some u0 := by simp [World.cell?, e3]
  refine wp_run (u := u0) (w' := w) ?_ ?_
  · unfold execOp
    simp only [ho]
    refine run_v ?_
    rw [hg2]
    simp only [Instr.loadAt, Instr.sureAddr, Sem.run_bind, Sem.run_pure, Result.andThen_ok]
    unfold Go.loadVar
    simp only [Sem.run_bind, ht.agg, Result.andThen_ok]
    simp [load, Sem.run, hcell]
  · rw [hd]
    exact ⟨_, β, hs.put (Below.refl _ _) hv0 (hs.hE i _ hE [v0] rfl v0 (List.mem_singleton.2 rfl)) hlt, h⟩
theorem AL.newF {t : TypeId} (ht : FnTy P t) (hX : X.Ok w0) {o : Oper} {rest : List Oper} (ho : o.op = .alloc t) (hgd : o.guard = none) {d : Nat} (hd : o.dst = some d) (hdn : Nat.blt d n = true) (h : AL P w0 X n ops rest ⟨(d, ⟨.hptr, (nx, (0 : Nat))⟩) :: F, (nx, some (.hbox [⟨.lit, .nilFunc⟩])) :: E, nx + 1⟩ Q) : AL P w0 X n ops (o :: rest) ⟨F, E, nx⟩ Q :=
  AL.hand hgd (fun c e => by rw [ho] at e; cases e) (newF_wp ht hX ho hd hdn (N := fun σ' => AL P w0 X n ops rest σ' Q) h)
theorem AL.setF {t : TypeId} (ht : FnTy P t) {o : Oper} {rest : List Oper} {p x : Operand} (ho : o.op = .store t p x) (hgd : o.guard = none) (hd : o.dst = none) {i : Nat} (hp : evO F p = ⟨.hptr, (i, (0 : Nat))⟩) {v0 : V} (hE : Owns.get E i = some (.hbox [v0])) {f : Nat} {c : Ty} {z : c.T} (hx : evO F x = ⟨.clo f c, z⟩)
    (h : AL P w0 X n ops rest ⟨F, (i, some (.hbox [⟨.clo f c, z⟩])) :: E, nx⟩ Q) : AL P w0 X n ops (o :: rest) ⟨F, E, nx⟩ Q :=
  AL.hand hgd (fun c e => by rw [ho] at e; cases e) (setF_wp ht ho hd hp hE hx (N := fun σ' => AL P w0 X n ops rest σ' Q) h)
theorem StepA.getF {t : TypeId} (ht : FnTy P t) {o : Oper} {p : Operand} (ho : o.op = .load t p) (hgd : o.guard = none) {d : Nat} (hd : o.dst = some d) (hdn : Nat.blt d n = true) {i : Nat} (hp : evO F p = ⟨.hptr, (i, (0 : Nat))⟩) {v0 : V} (hE : Owns.get E i = some (.hbox [v0])) {N : AS → Prop} (h : N ⟨(d, v0) :: F, E, nx⟩) : StepA P w0 X n ops o ⟨F, E, nx⟩ N Q :=
  StepA.hand hgd (getF_wp ht ho hd hdn hp hE h)
end
end Go.Proofs.YtbbeldmcdjjnbaaDoor
namespace Go.Proofs.YtbbeldmcdjjnbaaDoor
open Go Go.RowKit
set_option linter.unusedSimpArgs false
set_option linter.unusedVariables false
/-- the k-th element -/
def hleaf : Nat → V → Option V
  | 0, ⟨.hcons a _, x⟩ => some ⟨a, x.1⟩
  | k + 1, ⟨.hcons _ b, x⟩ => hleaf k ⟨b, x.2⟩
  | _, _ => none
def hlen : Ty → Nat
  | .hcons _ b => hlen b + 1
  | _ => 0
def hshape : Ty → Bool
  | .hcons _ b => hshape b
  | .unit => true
  | _ => false
theorem hcells {w : World} {O : Nat → Prop} {β : Nat → Value} : ∀ (t : Ty) (x : t.T) (u : Value), hshape t = true → RepV w O β t x u → ∃ cs : List Value, u = .agg cs.toArray ∧ cs.length = hlen t ∧ ∀ k v, hleaf k ⟨t, x⟩ = some v → ∃ c, cs[k]? = some c ∧ c.oneCell' = true ∧ RepV w O β v.t v.x c := by
  intro t
  induction t with
  | hcons a b _ ihb =>
    rintro x u hs ⟨c, s, rfl, hc, h1, h2⟩
    obtain ⟨cs, e, hl, hk⟩ := ihb x.2 _ hs h2
    have e : s = cs := by
      have := Value.agg.inj e
      simpa using congrArg Array.toList this
    subst e
    refine ⟨c :: s, rfl, by simp [hlen, hl], fun k v hv => ?_⟩
    cases k with
    | zero => cases hv; exact ⟨c, rfl, hc, h1⟩
    | succ k => exact hk k v hv
  | unit =>
    rintro x u _ h
    obtain ⟨cs, e, h⟩ : ∃ cs : List Value, u = .agg cs.toArray ∧ RepC w O .unit x cs := (RepD.agg rfl).1 h
    have h : cs = [] := h
    subst h
    exact ⟨[], e, rfl, fun k v hv => by cases k <;> cases hv⟩
  | _ => intro x u h; cases h
section
variable {P : Program} {K : Kn} {w0 : World} {X : Ownr} {n : Nat} {F : List (Nat × V)} {E : Owns} {nx : Nat} {Q : Exit → AS → Prop} {ops : Array Oper}
theorem hleaf_bound : ∀ (k : Nat) (t : Ty) (x : t.T) (v : V), hleaf k ⟨t, x⟩ = some v → v.bound ≤ (⟨t, x⟩ : V).bound
  | 0, .hcons a b, x, v, h => by cases h; exact Nat.le_max_left _ _
  | k + 1, .hcons a b, x, v, h => Nat.le_trans (hleaf_bound k b x.2 v h) (Nat.le_max_right _ _)
  | 0, .bool, _, _, h | 0, .int _, _, _, h | 0, .str, _, _, h | 0, .unit, _, _, h | 0, .pair _ _, _, _, h | 0, .arr _ _, _, _, h | 0, .slice _, _, _, h | 0, .junk, _, _, h | 0, .lit, _, _, h | 0, .vptr _, _, _, h | 0, .optr _, _, _, h | 0, .obuf _, _, _, h | 0, .tup _ _, _, _, h | 0, .cond _, _, _, h | 0, .clo _ _, _, _, h | 0, .mapL, _, _, h | 0, .hptr, _, _, h | 0, .cptr _ _ _, _, _, h => by cases h
  | _ + 1, .bool, _, _, h | _ + 1, .int _, _, _, h | _ + 1, .str, _, _, h | _ + 1, .unit, _, _, h | _ + 1, .pair _ _, _, _, h | _ + 1, .arr _ _, _, _, h | _ + 1, .slice _, _, _, h | _ + 1, .junk, _, _, h | _ + 1, .lit, _, _, h | _ + 1, .vptr _, _, _, h | _ + 1, .optr _, _, _, h | _ + 1, .obuf _, _, _, h | _ + 1, .tup _ _, _, _, h | _ + 1, .cond _, _, _, h | _ + 1, .clo _ _, _, _, h | _ + 1, .mapL, _, _, h | _ + 1, .hptr, _, _, h | _ + 1, .cptr _ _ _, _, _, h => by cases h
/-- one operation with a known value: a slot takes it -/
theorem valH_wp {o : Oper} {d : Nat} (hd : o.dst = some d) (hdn : Nat.blt d n = true) {v : V} (hb : v.bound ≤ nx) {N : AS → Prop} (h : N ⟨(d, v) :: F, E, nx⟩) {β : Nat → Value} {a : Act} {w : World} (hs : Sim w0 X n ⟨F, E, nx⟩ β a w) {u : Value} (hrun : (execOp a.eval o).run P w = .ok (.value u) w) (hr : RepV w (OSet X E β) β v.t v.x u) :
    o.wp P a w (fun a' w' => ∃ σ' β', Sim w0 X n σ' β' a' w' ∧ N σ') (fun e a' w' => e ≠ .outgrown ∧ ∃ σ' β', Sim w0 X n σ' β' a' w' ∧ Q e σ') := by
  have hlt : d < n := by simpa using hdn
  refine wp_run (u := u) (w' := w) hrun ?_
  rw [hd]
  exact ⟨_, β, hs.put (Below.refl _ _) hr hb hlt, h⟩
/-- arrays of pointers of this program: how an element is read -/
def PtrArr (P : Program) (t : TypeId) (m : Nat) : Prop := ∀ (cs : List Value) (k : Nat) (c : Value) (w : World) (ev : Operand → Value) (o : Oper) (x i : Operand), cs.length = m → cs[k]? = some c → o.op = .index t x i → ev x = .agg cs.toArray → ev i = .int .i64 (k : Int) → (execOp ev o).run P w = .ok (.value c) w
theorem AL.idxH {t : TypeId} {m : Nat} (ht : PtrArr P t m) {o : Oper} {rest : List Oper} {x i : Operand} (ho : o.op = .index t x i) (hgd : o.guard = none) {d : Nat} (hd : o.dst = some d) (hdn : Nat.blt d n = true) (k : Nat) {hv : V} (hx : evO F x = hv) (hsh : hshape hv.t = true) (hm : hlen hv.t = m) (hi : evO F i = ⟨.int .i64, ((k : Nat) : Int)⟩) {v : V} (hl : hleaf k hv = some v)
    (h : AL P w0 X n ops rest ⟨(d, v) :: F, E, nx⟩ Q) : AL P w0 X n ops (o :: rest) ⟨F, E, nx⟩ Q := by
  obtain ⟨τ, y⟩ := hv
  refine AL.hand hgd (fun c e => by rw [ho] at e; cases e) fun β a w hs => ?_
  have h1 := hs.ops x
  rw [show evO (AS.mk F E nx).F x = _ from hx] at h1
  obtain ⟨cs, e1, e2, e3⟩ := hcells τ y _ hsh h1
  obtain ⟨c, c1, _, c3⟩ := e3 k v hl
  have h2 := hs.ops i
  rw [show evO (AS.mk F E nx).F i = _ from hi] at h2
  have h3 : [a.eval i] = [.int .i64 (k : Int)] := (RepD.scalar (t := .int .i64) rfl).1 h2
  have hb : (⟨τ, y⟩ : V).bound ≤ nx := by
    have := evO_bound hs.hb x
    rwa [show evO (AS.mk F E nx).F x = _ from hx] at this
  exact valH_wp hd hdn (Nat.le_trans (hleaf_bound k τ y v hl) hb) (N := fun σ' => AL P w0 X n ops rest σ' Q) h hs (ht cs k c w a.eval o x i (e2.trans hm) c1 ho e1 (List.head_eq_of_cons_eq h3)) c3
/-- a pointer against nil -/
def PtrEq (P : Program) (t : TypeId) : Prop := ∀ (w : World) (ev : Operand → Value) (o : Oper) (x : Operand) (op : BinOp) (t2 : TypeId) (b : Bool), (op = .eql ∧ b = true ∨ op = .neq ∧ b = false) → o.op = .binOp op t x (.const (.pointer none)) t2 → (∀ y, ev (.const y) = y) →
  (ev x = .pointer none → (execOp ev o).run P w = .ok (.value (.bool b)) w) ∧ ∀ A, ev x = .pointer (some A) → (execOp ev o).run P w = .ok (.value (.bool !b)) w
def isNilP : V → Option Bool
  | ⟨.lit, .pointer none⟩ => some true
  | ⟨.vptr _, _⟩ => some false
  | _ => none
theorem AL.nilP {t : TypeId} (ht : PtrEq P t) {o : Oper} {rest : List Oper} {x : Operand} {op : BinOp} {t2 : TypeId} {b : Bool} (hop : op = .eql ∧ b = true ∨ op = .neq ∧ b = false) (ho : o.op = .binOp op t x (.const (.pointer none)) t2) (hgd : o.guard = none) {d : Nat} (hd : o.dst = some d) (hdn : Nat.blt d n = true) {hv : V} (hx : evO F x = hv) {q : Bool} (hq : isNilP hv = some q)
    (h : AL P w0 X n ops rest ⟨(d, ⟨.bool, q == b⟩) :: F, E, nx⟩ Q) : AL P w0 X n ops (o :: rest) ⟨F, E, nx⟩ Q := by
  refine AL.hand hgd (fun c e => by rw [ho] at e; cases e) fun β a w hs => ?_
  have h1 := hs.ops x
  rw [show evO (AS.mk F E nx).F x = _ from hx] at h1
  obtain ⟨r1, r2⟩ := ht w a.eval o x op t2 b hop ho fun _ => rfl
  revert h1 hq
  unfold isNilP
  split
  · intro hq h1
    cases hq
    have h1 : a.eval x = .pointer none := h1
    refine valH_wp hd hdn (Nat.zero_le _) (N := fun σ' => AL P w0 X n ops rest σ' Q) h hs (r1 h1) ?_
    cases b <;> exact RepV.ofBool
  · rename_i τ y
    intro hq h1
    cases hq
    obtain ⟨g, off, cs, e, _⟩ : ∃ g off cs, a.eval x = .pointer (some ⟨g, off, none⟩) ∧ g < w.heap.size ∧ ¬ OSet X E β g ∧ RepC w (OSet X E β) τ y cs ∧ CellsAt w g off cs := h1
    refine valH_wp hd hdn (Nat.zero_le _) (N := fun σ' => AL P w0 X n ops rest σ' Q) h hs (r2 _ e) ?_
    cases b <;> exact RepV.ofBool
  · intro hq; cases hq
/-- a call whose word is known for what stands in its arguments -/
theorem AL.callV {o : Oper} {rest : List Oper} {f : FuncId} {args : Array Operand} {ts : Array TypeId} (ho : o.op = .call ⟨.value (.func f), args, ts⟩) (hgd : o.guard = none) (hen : ∀ (as : Array Value) (w : World), (callFunc f as).run P w = .ok (.enter f as) w) {d : Nat} (hd : o.dst = some d) (hdn : Nat.blt d n = true) {v : V} (hb : v.bound = 0)
    (hcall : ∀ β a w, Sim w0 X n ⟨F, E, nx⟩ β a w → Calls P f (args.toList.map a.eval).toArray w fun e w' => ∃ u, e = .returned u ∧ Below w.heap.size w w' ∧ RepV w' (OSet X E β) β v.t v.x u)
    (h : AL P w0 X n ops rest ⟨(d, v) :: F, E, nx⟩ Q) : AL P w0 X n ops (o :: rest) ⟨F, E, nx⟩ Q := by
  have hlt : d < n := by simpa using hdn
  refine AL.hand hgd (fun c e => by rw [ho] at e; cases e) fun β a w hs => wp_enter ho hen ((hcall β a w hs).mono fun e w' ⟨u, h1, h2, h3⟩ => ⟨u, h1, ?_⟩)
  rw [hd]
  exact ⟨_, β, hs.put h2 h3 (by rw [hb]; exact Nat.zero_le _) hlt, h⟩
end
end Go.Proofs.YtbbeldmcdjjnbaaDoor
namespace Go.Proofs.YtbbeldmcdjjnbaaDoor
open Go Go.RowKit
set_option linter.unusedSimpArgs false
set_option linter.unusedVariables false
structure OpEq (P : Program) (o o' : Oper) : Prop where
  dst : o.dst = o'.dst
  after : o.after = o'.after
  guard : o.guard = o'.guard
  run : ∀ (ev : Operand → Value) (w : World), (execOp ev o).run P w = (execOp ev o').run P w
theorem OpEq.refl {P : Program} (o : Oper) : OpEq P o o := ⟨rfl, rfl, rfl, fun _ _ => rfl⟩
def OpsEq (P : Program) : List Oper → List Oper → Prop
  | [], [] => True
  | o :: l, o' :: l' => OpEq P o o' ∧ OpsEq P l l'
  | _, _ => False
inductive OpsI (P : Program) : List Oper → List Oper → Prop where
  | nil : OpsI P [] []
  | cons {o o' : Oper} {l l' : List Oper} (h : OpEq P o o') (t : OpsI P l l') : OpsI P (o :: l) (o' :: l')
theorem OpsI.eq {P : Program} {l l' : List Oper} (h : OpsI P l l') : OpsEq P l l' := by
  induction h with
  | nil => trivial
  | cons h _ ih => exact ⟨h, ih⟩
theorem OpsEq.get {P : Program} : ∀ {l l' : List Oper}, OpsEq P l l' → l.length = l'.length ∧ ∀ (i : Nat) (o : Oper), l[i]? = some o → ∃ o', l'[i]? = some o' ∧ OpEq P o o'
  | [], [], _ => ⟨rfl, fun i o h => by simp at h⟩
  | [], _ :: _, h => h.elim
  | _ :: _, [], h => h.elim
  | x :: l, x' :: l', ⟨h1, h2⟩ => by
    obtain ⟨h3, h4⟩ := h2.get
    refine ⟨by simp [h3], fun i o h => ?_⟩
    cases i with
    | zero => cases h; exact ⟨x', rfl, h1⟩
    | succ i => exact h4 i o (by simpa using h)
theorem OpEq.wp {P : Program} {o o' : Oper} (h : OpEq P o o') {a : Act} {w : World} {N : Act → World → Prop} {Q : Exit → Act → World → Prop} (hw : o'.wp P a w N Q) : o.wp P a w N Q := by
  unfold Oper.wp at hw ⊢
  rw [h.run]
  revert hw
  generalize (execOp a.eval o').run P w = x
  unfold Oper.upon
  rw [h.dst]
  exact id
section
variable {P : Program} {ops ops' : Array Oper}
theorem ops_get (h : OpsEq P ops.toList ops'.toList) : ops.size = ops'.size ∧ (∀ (i : Nat) (o : Oper), ops[i]? = some o → ∃ o', ops'[i]? = some o' ∧ OpEq P o o') ∧ ∀ (i : Nat) (o' : Oper), ops'[i]? = some o' → ∃ o, ops[i]? = some o ∧ OpEq P o o' := by
  obtain ⟨h1, h2⟩ := h.get
  have h1 : ops.size = ops'.size := h1
  have h3 : ∀ (i : Nat) (o : Oper), ops[i]? = some o → ∃ o', ops'[i]? = some o' ∧ OpEq P o o' := fun i o ho => by
    obtain ⟨o', h4, h5⟩ := h2 i o (by simpa using ho)
    exact ⟨o', by simpa using h4, h5⟩
  refine ⟨h1, h3, fun i o' ho' => ?_⟩
  have hi : i < ops.size := by rw [h1]; exact (Array.getElem?_eq_some_iff.1 ho').1
  obtain ⟨o2, h4, h5⟩ := h3 i _ (Array.getElem?_eq_getElem hi)
  rw [ho'] at h4
  cases h4
  exact ⟨_, Array.getElem?_eq_getElem hi, h5⟩
theorem yielded_swap (h : OpsEq P ops.toList ops'.toList) (tmps : Array Value) : yielded ops tmps = yielded ops' tmps := by
  obtain ⟨_, h2, h3⟩ := ops_get h
  funext j
  unfold yielded
  cases ho : ops[j]? with
  | some o =>
    obtain ⟨o', h4, h5⟩ := h2 j o ho
    simp only [h4, Option.bind_some, h5.dst]
  | none =>
    cases ho' : ops'[j]? with
    | none => rfl
    | some o' =>
      obtain ⟨o, h4, _⟩ := h3 j o' ho'
      rw [ho] at h4
      cases h4
theorem ready_swap (h : OpsEq P ops.toList ops'.toList) {md : Region.Mode} {listed : Array Bool} {j : Nat} : j ∈ Region.ready md ops listed ↔ j ∈ Region.ready md ops' listed := by
  obtain ⟨_, h2, h3⟩ := ops_get h
  rw [mem_ready, mem_ready]
  constructor
  · rintro ⟨h4, o, h5, h6⟩
    obtain ⟨o', h7, h8⟩ := h2 j o h5
    exact ⟨h4, o', h7, fun e he => h6 e (by rw [h8.after]; exact he)⟩
  · rintro ⟨h4, o', h5, h6⟩
    obtain ⟨o, h7, h8⟩ := h3 j o' h5
    exact ⟨h4, o, h7, fun e he => h6 e (by rw [← h8.after]; exact he)⟩
theorem wpAny_swap (h : OpsEq P ops.toList ops'.toList) {Q : Exit → Act → World → Prop} (hno : ¬ LetsOut Q) {md : Region.Mode} : ∀ (fuel : Nat) {listed : Array Bool} {a : Act} {w : World}, wpAny P md ops' Q fuel listed a w → wpAny P md ops Q fuel listed a w := by
  have hnil : ∀ {listed : Array Bool}, Region.ready md ops listed = [] ↔ Region.ready md ops' listed = [] := fun {listed} => by
    rw [List.eq_nil_iff_forall_not_mem, List.eq_nil_iff_forall_not_mem]
    exact ⟨fun h1 i hi => h1 i ((ready_swap h).2 hi), fun h1 i hi => h1 i ((ready_swap h).1 hi)⟩
  intro fuel
  induction fuel with
  | zero => intro listed a w hw; exact ⟨hnil.2 hw.1, hw.2⟩
  | succ fuel ih =>
    intro listed a w hw
    refine ⟨fun h1 => hw.1 (hnil.1 h1), fun i hi => ?_⟩
    have h2 := hw.2 i ((ready_swap h).1 hi)
    obtain ⟨_, o, ho, _⟩ := mem_ready.1 hi
    obtain ⟨_, h3, _⟩ := ops_get h
    obtain ⟨o', h4, h5⟩ := h3 i o ho
    unfold wpOp at h2 ⊢
    rw [ho]
    rw [h4] at h2
    simp only at h2 ⊢
    have hw2 : Region.wanted o (yielded ops a.tmps) = Region.wanted o' (yielded ops' a.tmps) := by
      rw [yielded_swap h]
      unfold Region.wanted
      rw [h5.guard]
    rw [hw2]
    split at h2
    · rename_i hc
      rw [if_pos hc]
      rcases h2 with h2 | ⟨_, h2⟩
      · exact .inl (h5.wp (Oper.wp_mono (fun a w h => ih h) h2))
      · exact absurd h2 hno
    · rename_i hc
      rw [if_neg hc, h5.dst]
      exact ih h2
end
section
variable {P : Program} {K : Kn} {w0 : World} {X : Ownr} {n : Nat} {σ : AS} {Q : Exit → AS → Prop} {ops : Array Oper}
/-- a region that draws its order, other operations in the place of its own -/
theorem AWP.drawS {l' : List Oper} (heq' : OpsI P ops.toList l') (hm : P.follows .mixedOrders = true) (hX : X.Ok w0) (hK : KnOk P X.G K) {id : Nat} (m : Nat) (hB : headB l'.toArray m = true) {r1 r2 : List Prop × AS} (h1 : aHead K n l'.toArray (l'.take m) σ = some r1) (h2 : aSeq K n l'.toArray (l'.drop m) r1.2 = some r2)
    (hp1 : allP r1.1) (hp2 : allP r2.1) (hq : Q .normal r2.2) (hd : noDefer ops.toList = true := by rfl) : AWP P w0 X n (.region id ops true) σ Q := fun β a w h => by
  have heq : OpsEq P ops.toList l'.toArray.toList := heq'.eq
  exact Go.wpIn_mono (wpIn_region_any hm (wpAnyIn_of_wpAny (R := fun e a w => e = .normal ∧ ∃ β', Sim w0 X n r2.2 β' a w) not_lets hd _ (by
    rw [(ops_get heq).1]
    exact wpAny_swap heq not_lets _ (draw_any hK hX h hB h1 h2 hp1 hp2 fun β' _ _ h' => ⟨rfl, β', h'⟩)))) fun e a w ⟨he, β', h'⟩ => by
      subst he; exact ⟨r2.2, β', h', hq⟩
/-- one operation of a region, another in its place -/
theorem AL.step {o o' : Oper} {rest : List Oper} (heq : OpEq P o o') (hX : X.Ok w0) (hK : KnOk P X.G K) {r : List Prop × AS} (hs : aStep K n ops o' σ = some r) (hp : allP r.1) (h : AL P w0 X n ops rest r.2 Q) (hgd : o.guard = none := by rfl) (hnd : ∀ c, o.op ≠ .defer c := by intro c e; cases e) : AL P w0 X n ops (o :: rest) σ Q := by
  refine AL.hand hgd hnd fun β a w hsim => heq.wp ?_
  have h1 := aStep_wp (ops := ops) (N := fun a' w' => ∃ σ' β', Sim w0 X n σ' β' a' w' ∧ AL P w0 X n ops rest σ' Q) (R := fun e a' w' => e ≠ .outgrown ∧ ∃ σ' β', Sim w0 X n σ' β' a' w' ∧ Q e σ') hK hX hsim hs hp fun β' a' w' h2 => ⟨r.2, β', h2, h⟩
  have hg' : o'.guard = none := by rw [← heq.guard]; exact hgd
  simp only [Region.wanted, hg', if_true] at h1
  rcases h1 with h1 | ⟨_, h1⟩
  · exact h1
  · obtain ⟨_, _, h2, _⟩ := h1
    exact absurd rfl h2
end
/-! ### a region whose first operation (a move) floats: no other has to wait for it but those that read it -/
section
variable {P : Program} {ops ops' : Array Oper} {d : Nat} {src : Operand}
theorem eval_put_ne {a : Act} {v : Value} {x : Operand} (h : x ≠ .tmp d) : (a.put (some d) v).eval x = a.eval x := by
  cases x with
  | tmp t =>
    have : d ≠ t := fun e => h (by rw [e])
    show (a.tmps.setIfInBounds d v).getD t undef = a.tmps.getD t undef
    simp only [Array.getD_eq_getD_getElem?, Array.getElem?_setIfInBounds_ne this]
  | _ => rfl
theorem put_swap {a : Act} {v x : Value} {q : Option Nat} (h : q ≠ some d) : (a.put (some d) v).put q x = (a.put q x).put (some d) v := by
  cases q with
  | none => rfl
  | some e =>
    have : d ≠ e := fun h' => h (by rw [h'])
    show ({ a with tmps := (a.tmps.setIfInBounds d v).setIfInBounds e x } : Act) = { a with tmps := (a.tmps.setIfInBounds e x).setIfInBounds d v }
    rw [Array.setIfInBounds_comm _ _ this]
structure FlOp (P : Program) (d : Nat) (src : Operand) (o o' : Oper) : Prop where
  dst : o.dst = o'.dst
  guard : o.guard = none
  guard' : o'.guard = none
  fwd : ∀ e ∈ o.after, e ∈ o'.after
  bwd : ∀ e ∈ o'.after, e ∈ o.after ∨ e.on = 0
  run : ∀ (ev : Operand → Value) (w : World), (execOp ev o).run P w = (execOp ev o').run P w
  nd : o.dst ≠ some d
  ns : ∀ t, src = .tmp t → o.dst ≠ some t
  sees : (∃ e ∈ o.after, e.on = 0 ∧ Region.binds .any e = true) ∨ ∀ ev ev' : Operand → Value, (∀ x, x ≠ .tmp d → ev x = ev' x) → execOp ev o = execOp ev' o
theorem FlOp.of_eq {o o' : Oper} (h : OpEq P o o') (hg : o.guard = none) (nd : o.dst ≠ some d) (ns : ∀ t, src = .tmp t → o.dst ≠ some t) (sees : (∃ e ∈ o.after, e.on = 0 ∧ Region.binds .any e = true) ∨ ∀ ev ev' : Operand → Value, (∀ x, x ≠ .tmp d → ev x = ev' x) → execOp ev o = execOp ev' o) : FlOp P d src o o' :=
  ⟨h.dst, hg, by rw [← h.guard]; exact hg, fun e he => by rw [← h.after]; exact he, fun e he => .inl (by rw [h.after]; exact he), h.run, nd, ns, sees⟩
theorem FlOp.edge {o : Oper} (k : Nat) (hg : o.guard = none) (nd : o.dst ≠ some d) (ns : ∀ t, src = .tmp t → o.dst ≠ some t) (sees : (∃ e ∈ o.after, e.on = 0 ∧ Region.binds .any e = true) ∨ ∀ ev ev' : Operand → Value, (∀ x, x ≠ .tmp d → ev x = ev' x) → execOp ev o = execOp ev' o) : FlOp P d src o { o with after := o.after ++ #[{ (o.after.getD k default) with on := 0 }] } :=
  ⟨rfl, hg, hg, fun e he => Array.mem_append.2 (.inl he), fun e he => (Array.mem_append.1 he).imp id fun h => by rw [Array.mem_singleton.1 h], fun _ _ => rfl, nd, ns, sees⟩
inductive FlL (P : Program) (d : Nat) (src : Operand) : List Oper → List Oper → Prop where
  | nil : FlL P d src [] []
  | cons {o o' : Oper} {l l' : List Oper} (h : FlOp P d src o o') (t : FlL P d src l l') : FlL P d src (o :: l) (o' :: l')
theorem FlL.get {P : Program} {l l' : List Oper} (h : FlL P d src l l') : l.length = l'.length ∧ (∀ (i : Nat) (o : Oper), l[i]? = some o → ∃ o', l'[i]? = some o' ∧ FlOp P d src o o') := by
  induction h with
  | nil => exact ⟨rfl, fun i o h => by simp at h⟩
  | cons h _ ih =>
    obtain ⟨h3, h4⟩ := ih
    refine ⟨by simp [h3], fun i o h' => ?_⟩
    cases i with
    | zero => cases h'; exact ⟨_, rfl, h⟩
    | succ i => exact h4 i o (by simpa using h')
structure FlOk (P : Program) (d : Nat) (src : Operand) (ops ops' : Array Oper) : Prop where
  size : ops.size = ops'.size
  zero : ∃ o, ops[0]? = some o ∧ ops'[0]? = some o ∧ o.op = .move src ∧ o.dst = some d ∧ (∀ e ∈ o.after, False) ∧ o.guard = none
  rest : ∀ (i : Nat) (o : Oper), i ≠ 0 → ops[i]? = some o → ∃ o', ops'[i]? = some o' ∧ FlOp P d src o o'
theorem FlOk.of {o0 : Oper} {l l' : List Oper} (hops : ops.toList = o0 :: l) (hop : o0.op = .move src) (hd : o0.dst = some d) (haf : o0.after.toList = []) (hg : o0.guard = none) (h : FlL P d src l l') : FlOk P d src ops (o0 :: l').toArray := by
  obtain ⟨h1, h2⟩ := h.get
  have e : ops = (o0 :: l).toArray := by rw [← hops]
  subst e
  refine ⟨by simp [h1], ⟨o0, by simp, by simp, hop, hd, fun e he => ?_, hg⟩, fun i o hi ho => ?_⟩
  · have := Array.mem_toList_iff.2 he
    rw [haf] at this
    cases this
  · cases i with
    | zero => exact absurd rfl hi
    | succ i =>
      obtain ⟨o', h3, h4⟩ := h2 i o (by simpa using ho)
      exact ⟨o', by simpa using h3, h4⟩
variable {Q : Exit → Act → World → Prop}
theorem FlOk.ready (h : FlOk P d src ops ops') {listed : Array Bool} {j : Nat} (hz : listed.getD 0 false = true) : j ∈ Region.ready .any ops listed ↔ j ∈ Region.ready .any ops' listed := by
  obtain ⟨o0, e1, e2, _, _, e5, _⟩ := h.zero
  rw [mem_ready, mem_ready]
  by_cases hj : j = 0
  · subst hj
    rw [e1, e2]
  constructor
  · rintro ⟨h4, o, h5, h6⟩
    obtain ⟨o', h7, h8⟩ := h.rest j o hj h5
    exact ⟨h4, o', h7, fun e he hb => by
      rcases h8.bwd e he with h9 | h9
      · exact h6 e h9 hb
      · rw [h9]; exact hz⟩
  · rintro ⟨h4, o', h5, h6⟩
    have hlt : j < ops.size := by rw [h.size]; exact (Array.getElem?_eq_some_iff.1 h5).1
    obtain ⟨o2, h7, h8⟩ := h.rest j _ hj (Array.getElem?_eq_getElem hlt)
    rw [h5] at h7
    cases h7
    exact ⟨h4, _, Array.getElem?_eq_getElem hlt, fun e he hb => h6 e (h8.fwd e he) hb⟩
theorem wpAny_fl2 (h : FlOk P d src ops ops') (hno : ¬ LetsOut Q) : ∀ (fuel : Nat) {listed : Array Bool} {a : Act} {w : World}, listed.getD 0 false = true → wpAny P .any ops' Q fuel listed a w → wpAny P .any ops Q fuel listed a w := by
  have hnil : ∀ {listed : Array Bool}, listed.getD 0 false = true → (Region.ready .any ops listed = [] ↔ Region.ready .any ops' listed = []) := fun {listed} hz => by
    rw [List.eq_nil_iff_forall_not_mem, List.eq_nil_iff_forall_not_mem]
    exact ⟨fun h1 i hi => h1 i ((h.ready hz).2 hi), fun h1 i hi => h1 i ((h.ready hz).1 hi)⟩
  intro fuel
  induction fuel with
  | zero => intro listed a w hz hw; exact ⟨(hnil hz).2 hw.1, hw.2⟩
  | succ fuel ih =>
    intro listed a w hz hw
    refine ⟨fun h1 => hw.1 ((hnil hz).1 h1), fun i hi => ?_⟩
    have h2 := hw.2 i ((h.ready hz).1 hi)
    have hi0 : i ≠ 0 := by
      rintro rfl
      have h3 := getD_both (mem_ready.1 hi).1
      rw [hz] at h3
      cases h3
    obtain ⟨_, o, ho, _⟩ := mem_ready.1 hi
    obtain ⟨o', h4, h5⟩ := h.rest i o hi0 ho
    unfold wpOp at h2 ⊢
    rw [ho]
    rw [h4] at h2
    simp only [Region.wanted, h5.guard, h5.guard', if_true] at h2 ⊢
    rcases h2 with h2 | ⟨_, h2⟩
    · refine .inl ?_
      have h2 := Oper.wp_mono (fun a w hh => ih (getD_set_true hz) hh) h2
      unfold Oper.wp at h2 ⊢
      rw [h5.run]
      revert h2
      generalize (execOp a.eval o').run P w = x
      unfold Oper.upon
      rw [h5.dst]
      exact id
    · exact absurd h2 hno
theorem set_swap {listed : Array Bool} {i j : Nat} : (listed.setIfInBounds i true).setIfInBounds j true = (listed.setIfInBounds j true).setIfInBounds i true := by
  by_cases h : i = j
  · rw [h]
  · exact Array.setIfInBounds_comm _ _ h
theorem wpAny_fl1 (h : FlOk P d src ops ops') (hsd : src ≠ .tmp d) (hno : ¬ LetsOut Q) (hQn : ∀ e a w, Q e a w → e = .normal) : ∀ (fuel : Nat) {listed : Array Bool} {a : Act} {w : World}, listed.size = ops.size → listed.getD 0 true = false → wpAny P .any ops' Q fuel (listed.setIfInBounds 0 true) (a.put (some d) (a.eval src)) w → wpAny P .any ops Q (fuel + 1) listed a w := by
  obtain ⟨o0, e1, e2, e3, e4, e5, e6⟩ := h.zero
  have hpos : 0 < ops.size := (Array.getElem?_eq_some_iff.1 e1).1
  have hz1 : ∀ {listed : Array Bool}, listed.size = ops.size → (listed.setIfInBounds 0 true).getD 0 false = true := fun {listed} hs => by
    simp [Array.getD_eq_getD_getElem?, Array.getElem?_setIfInBounds, hs, hpos]
  intro fuel
  induction fuel with
  | zero =>
    intro listed a w hs hz hw
    have h0 : (0 : Nat) ∈ Region.ready .any ops listed := mem_ready.2 ⟨hz, o0, e1, fun e he _ => (e5 e he).elim⟩
    refine ⟨fun h1 => (by rw [h1] at h0; cases h0), fun i hi => ?_⟩
    by_cases hi0 : i = 0
    · subst hi0
      unfold wpOp
      rw [e1]
      simp only [Region.wanted, e6, if_true]
      refine .inl ?_
      have : (execOp a.eval o0).run P w = .ok (.value (a.eval src)) w := by unfold execOp; rw [e3]; rfl
      unfold Oper.wp
      rw [this, Oper.upon_value, e4]
      exact wpAny_fl2 h hno _ (hz1 hs) hw
    · have hr := (h.ready (hz1 hs) (j := i)).1 (mem_ready.2 (by
        obtain ⟨q1, o, q2, q3⟩ := mem_ready.1 hi
        refine ⟨by rw [getD_set_ne _ (Ne.symm hi0)]; exact q1, o, q2, fun e he hb => ?_⟩
        exact getD_set_true (q3 e he hb)))
      rw [hw.1] at hr
      cases hr
  | succ fuel ih =>
    intro listed a w hs hz hw
    have h0 : (0 : Nat) ∈ Region.ready .any ops listed := mem_ready.2 ⟨hz, o0, e1, fun e he _ => (e5 e he).elim⟩
    refine ⟨fun h1 => (by rw [h1] at h0; cases h0), fun i hi => ?_⟩
    by_cases hi0 : i = 0
    · subst hi0
      unfold wpOp
      rw [e1]
      simp only [Region.wanted, e6, if_true]
      refine .inl ?_
      have : (execOp a.eval o0).run P w = .ok (.value (a.eval src)) w := by unfold execOp; rw [e3]; rfl
      unfold Oper.wp
      rw [this, Oper.upon_value, e4]
      exact wpAny_fl2 h hno _ (hz1 hs) hw
    · have hr := (h.ready (hz1 hs) (j := i)).1 (mem_ready.2 (by
        obtain ⟨q1, o, q2, q3⟩ := mem_ready.1 hi
        refine ⟨by rw [getD_set_ne _ (Ne.symm hi0)]; exact q1, o, q2, fun e he hb => ?_⟩
        exact getD_set_true (q3 e he hb)))
      have h2 := hw.2 i hr
      obtain ⟨q1, o, ho, q3⟩ := mem_ready.1 hi
      obtain ⟨o', h4, h5⟩ := h.rest i o hi0 ho
      have hev : ∀ x w, (execOp x o).run P w = (execOp x o').run P w := h5.run
      have hex : execOp (a.put (some d) (a.eval src)).eval o = execOp a.eval o := by
        rcases h5.sees with ⟨e, he, h6, h7⟩ | h6
        · have := q3 e he h7
          rw [h6, getD_both hz] at this
          cases this
        · exact h6 _ _ fun x hx => eval_put_ne hx
      have hsrc : ∀ (b : Act) v, (b.put o.dst v).eval src = b.eval src := fun b v => by
        cases hd : o.dst with
        | none => rfl
        | some t => exact eval_put_ne fun e => h5.ns t e hd
      have hput : ∀ (b : Act) v x, (b.put (some d) v).put o.dst x = (b.put o.dst x).put (some d) v := fun b v x => put_swap h5.nd
      unfold wpOp at h2 ⊢
      rw [ho]
      rw [h4] at h2
      simp only [Region.wanted, h5.guard, h5.guard', if_true] at h2 ⊢
      rcases h2 with h2 | ⟨_, h2⟩
      · refine .inl ?_
        have key : ∀ (b : Act) w', wpAny P .any ops' Q fuel ((listed.setIfInBounds 0 true).setIfInBounds i true) (b.put (some d) (b.eval src)) w' → wpAny P .any ops Q (fuel + 1) (listed.setIfInBounds i true) b w' := fun b w' hh => by
          rw [set_swap] at hh
          exact ih (by simp [hs]) (by rw [getD_set_ne _ hi0]; exact hz) hh
        unfold Oper.wp at h2 ⊢
        rw [← hev, hex] at h2
        revert h2
        generalize (execOp a.eval o).run P w = x
        unfold Oper.upon
        rw [← h5.dst]
        intro h2
        have kp : ∀ v w', wpAny P .any ops' Q fuel ((listed.setIfInBounds 0 true).setIfInBounds i true) ((a.put (some d) (a.eval src)).put o.dst v) w' → wpAny P .any ops Q (fuel + 1) (listed.setIfInBounds i true) (a.put o.dst v) w' := fun v w' hh => by
          rw [hput] at hh
          exact key _ _ (by rw [hsrc]; exact hh)
        cases x with
        | ok x w' =>
          cases x with
          | value v => exact kp _ _ h2
          | skip => exact kp _ _ h2
          | defer c =>
            have hsx : ({ a with defers := c :: a.defers } : Act).eval src = a.eval src := by cases src <;> rfl
            refine key _ _ ?_
            rw [hsrc, hsx, ← hput]
            exact h2
          | enter f args =>
            refine Calls.mono h2 fun e w'' he => ?_
            cases e with
            | returned v => exact kp _ _ he
            | panicked c => exact absurd (hQn _ _ _ he) (by intro hh; cases hh)
            | outgrown => exact absurd he hno
          | row r args => exact Rows.mono h2 fun v w'' he => kp _ _ he
          | _ => exact h2
        | halt x w' =>
          cases x with
          | panic v => exact absurd (hQn _ _ _ h2) (by intro hh; cases hh)
          | _ => exact h2
      · exact absurd h2 hno
theorem wpAny_fl (h : FlOk P d src ops ops') (hsd : src ≠ .tmp d) (hno : ¬ LetsOut Q) (hQn : ∀ e a w, Q e a w → e = .normal) {a : Act} {w : World} (hw : wpAny P .any ops' Q ops'.size (Array.replicate ops'.size false) a w) : wpAny P .any ops Q ops.size (Array.replicate ops.size false) a w := by
  obtain ⟨o0, e1, e2, e3, e4, e5, e6⟩ := h.zero
  have hpos : 0 < ops.size := (Array.getElem?_eq_some_iff.1 e1).1
  rw [← h.size] at hw
  obtain ⟨f, hf⟩ : ∃ f, ops.size = f + 1 := ⟨ops.size - 1, by omega⟩
  have hz : (Array.replicate ops.size false).getD 0 true = false := by simp [hpos]
  generalize hl : Array.replicate ops.size false = listed at hw hz ⊢
  have hs : listed.size = ops.size := by rw [← hl]; simp
  rw [hf] at hw ⊢
  refine wpAny_fl1 h hsd hno hQn f hs hz ?_
  have h0 : (0 : Nat) ∈ Region.ready .any ops' listed := mem_ready.2 ⟨hz, o0, e2, fun e he _ => (e5 e he).elim⟩
  have h1 := hw.2 0 h0
  unfold wpOp at h1
  rw [e2] at h1
  simp only [Region.wanted, e6, if_true] at h1
  rcases h1 with h1 | ⟨_, h1⟩
  · have : (execOp a.eval o0).run P w = .ok (.value (a.eval src)) w := by unfold execOp; rw [e3]; rfl
    unfold Oper.wp at h1
    rw [this, Oper.upon_value, e4] at h1
    exact h1
  · exact absurd h1 hno
end
section
variable {P : Program} {K : Kn} {w0 : World} {X : Ownr} {n : Nat} {σ : AS} {Q : Exit → AS → Prop} {ops : Array Oper} {d : Nat} {src : Operand}
/-- a region that draws its order, its first operation a move that no head waits for; other operations in the place of its own -/
theorem AWP.drawF {o0 : Oper} {l l' : List Oper} (hops : ops.toList = o0 :: l) (hI : FlL P d src l l') (hop : o0.op = .move src) (hdd : o0.dst = some d) (haf : o0.after.toList = []) (hg : o0.guard = none) (hsd : src ≠ .tmp d) (hm : P.follows .mixedOrders = true) (hX : X.Ok w0) (hK : KnOk P X.G K) {id : Nat} (m : Nat)
    (hB : headB (o0 :: l').toArray m = true) {r1 r2 : List Prop × AS} (h1 : aHead K n (o0 :: l').toArray ((o0 :: l').take m) σ = some r1) (h2 : aSeq K n (o0 :: l').toArray ((o0 :: l').drop m) r1.2 = some r2)
    (hp1 : allP r1.1) (hp2 : allP r2.1) (hq : Q .normal r2.2) (hd : noDefer ops.toList = true := by rfl) : AWP P w0 X n (.region id ops true) σ Q := fun β a w h =>
  Go.wpIn_mono (wpIn_region_any hm (wpAnyIn_of_wpAny (R := fun e a w => e = .normal ∧ ∃ β', Sim w0 X n r2.2 β' a w) not_lets hd _ (
    wpAny_fl (FlOk.of hops hop hdd haf hg hI) hsd not_lets (fun _ _ _ h => h.1) (draw_any hK hX h hB h1 h2 hp1 hp2 fun β' _ _ h' => ⟨rfl, β', h'⟩)))) fun e a w ⟨he, β', h'⟩ => by
      subst he; exact ⟨r2.2, β', h', hq⟩
end
end Go.Proofs.YtbbeldmcdjjnbaaDoor
namespace Go.Proofs.YtbbeldmcdjjnbaaDoor
open Go Go.RowKit
set_option linter.unusedSimpArgs false
set_option linter.unusedVariables false
section
variable {P : Program} {K : Kn} {w0 : World} {X : Ownr} {n : Nat} {σ : AS} {Q : Exit → AS → Prop} {ops : Array Oper}
/-- from now on the variable 0 lies in a known block -/
theorem AWP.pin (hX : X.Ok w0) (hK0 : X.K = 0) {vs : List V} (hi : Owns.get σ.E 0 = some (.hbox vs)) {c : Code} (h : ∀ (w1 : World) (X' : Ownr), X'.Ok w1 → X'.G = X.G → X'.K = 1 → X'.ρ = X.ρ → X'.D = X.D → X'.X = X.X → AWP P w1 X' n c σ Q) : AWP P w0 X n c σ Q := fun β a w hs => by
  obtain ⟨g, cs, ty, e1, _, e3, _⟩ := hs.own _ _ hi
  let Y : Ownr := { X with K := 1, fix := fun _ => g, B := fun k => ∃ i o, Owns.get σ.E i = some o ∧ blockOf (β i) = some k }
  have hg0 : blockOf (β 0) = some g := by rw [e1]; rfl
  have hYR : ∀ k, Y.R k → ∃ i o, Owns.get σ.E i = some o ∧ blockOf (β i) = some k := fun k hk => by
    rcases hk with ⟨_, _, hk⟩ | hk
    · have hk : g = k := hk
      exact ⟨0, _, hi, by rw [hg0, hk]⟩
    · exact hk
  have hback : ∀ k, Y.R k → w0.heap.size ≤ k ∨ X.R k := fun k hk => by
    obtain ⟨i, o, h1, h2⟩ := hYR k hk
    exact hs.new i o k h1 h2
  have hcomp : ∀ w', Kept Y.R w w' → Kept X.R w0 w' := fun w' hk => ⟨hk.os.trans hs.bel.os, hk.tape.trans hs.bel.tape, hk.output.trans hs.bel.output, Nat.le_trans hs.bel.size hk.size, fun k hkl hn => by
    have hkw : k < w.heap.size := Nat.lt_of_lt_of_le hkl hs.bel.size
    rw [hk.block k hkw fun hy => by
      rcases hback k hy with h1 | h1
      · omega
      · exact hn h1]
    exact hs.bel.block k hkl hn⟩
  have hYok : Y.Ok w := by
    refine ⟨fun k hk => ⟨Nat.lt_of_lt_of_le (hX.1 k hk).1 hs.bel.size, fun hy => ?_⟩, fun k hk => ?_, fun w' hk => hX.2.2 w' (hcomp w' hk)⟩
    · have h1 := hX.1 k hk
      rcases hback k hy with h2 | h2
      · omega
      · exact h1.2 h2
    · obtain ⟨i, o, h1, h2⟩ := hYR k hk
      exact ((hs.own i o h1).block_lt h2).2
  have hn1 : 1 ≤ σ.nx := hs.lt 0 _ hi
  have hsim : Sim w Y n σ β a w := ⟨hs.sz, hs.df, Kept.refl _ _, hs.fr, hs.own, fun i o k h1 h2 => .inr (.inr ⟨i, o, h1, h2⟩), hs.inj, hs.lt, ⟨hn1, fun i hil => by
    have hil : i < 1 := hil
    obtain rfl : i = 0 := by omega
    exact ⟨hg0, fun o ho => by rw [hi] at ho; cases ho; rfl⟩⟩, hs.hb, hs.hE⟩
  refine Go.wpIn_mono (h w Y hYok rfl rfl rfl rfl rfl β a w hsim) fun e a' w' ⟨σ', β', h1, h2⟩ => ⟨σ', β', ?_, h2⟩
  exact ⟨h1.sz, h1.df, hcomp w' h1.bel, h1.fr, h1.own, fun i o k h3 h4 => by
    rcases h1.new i o k h3 h4 with h5 | h5
    · exact .inl (Nat.le_trans hs.bel.size h5)
    · exact hback k h5, h1.inj, h1.lt, ⟨by rw [hK0]; exact Nat.zero_le _, fun i hil => by rw [hK0] at hil; exact absurd hil (Nat.not_lt_zero _)⟩, h1.hb, h1.hE⟩
/-- other handles -/
theorem AWP.rename (hK0 : X.K = 0) (L : List (Nat × Nat)) (m : Nat) {c : Code} (h : AWP P w0 X n c ⟨rnFr L σ.F, rnE L σ.E, m⟩ Q) (hL : rnOk L = true := by rfl) (hF : bndB m (rnFr L σ.F) = true := by rfl) (hE : bndE m (rnE L σ.E) = true := by rfl) : AWP P w0 X n c σ Q :=
  fun β a w hs => h _ a w (hs.rename hL hK0 hF hE)
end
section
variable {P : Program} {K : Kn} {w0 : World} {X : Ownr} {n : Nat} {F : List (Nat × V)} {E : Owns} {nx : Nat} {Q : Exit → AS → Prop} {ops : Array Oper}
/-- an operation whose value is known as it is -/
theorem AL.litv {o : Oper} {rest : List Oper} (hgd : o.guard = none) (hnd : ∀ c, o.op ≠ .defer c) {d : Nat} (hd : o.dst = some d) (hdn : Nat.blt d n = true) (u : Value) (hrun : ∀ β a w, Sim w0 X n ⟨F, E, nx⟩ β a w → (execOp a.eval o).run P w = .ok (.value u) w)
    (h : AL P w0 X n ops rest ⟨(d, ⟨.lit, u⟩) :: F, E, nx⟩ Q) : AL P w0 X n ops (o :: rest) ⟨F, E, nx⟩ Q :=
  AL.hand hgd hnd fun β a w hs => valH_wp hd hdn (v := ⟨.lit, u⟩) (Nat.zero_le _) (N := fun σ' => AL P w0 X n ops rest σ' Q) h hs (hrun β a w hs) rfl
theorem lit_eval {β : Nat → Value} {a : Act} {w : World} (hs : Sim w0 X n ⟨F, E, nx⟩ β a w) {x : Operand} {u : Value} (hx : evO F x = ⟨.lit, u⟩) : a.eval x = u := by
  have h1 := hs.ops x
  rw [show evO (AS.mk F E nx).F x = _ from hx] at h1
  exact h1
/-- the pinned variable's address -/
theorem pin_eval (hK1 : X.K = 1) {β : Nat → Value} {a : Act} {w : World} (hs : Sim w0 X n ⟨F, E, nx⟩ β a w) {x : Operand} (hx : evO F x = ⟨.hptr, ((0 : Nat), (0 : Nat))⟩) : a.eval x = .pointer (some ⟨X.fix 0, 0, none⟩) := by
  have h1 := hs.ops x
  rw [show evO (AS.mk F E nx).F x = _ from hx] at h1
  obtain ⟨g, hg1, hg2⟩ := h1
  have h2 := (hs.fix.2 0 (by rw [hK1]; exact Nat.zero_lt_one)).1
  have hg1 : blockOf (β 0) = some g := hg1
  rw [hg1] at h2
  rw [hg2, Option.some.inj h2]
/-- a method of the pinned variable, as a value -/
theorem AL.meth (hK1 : X.K = 1) {o : Oper} {rest : List Oper} {f : FuncId} {x : Operand} (ho : o.op = .makeFunc (.func f) #[x] #[]) (hgd : o.guard = none) {d : Nat} (hd : o.dst = some d) (hdn : Nat.blt d n = true) (hx : evO F x = ⟨.hptr, ((0 : Nat), (0 : Nat))⟩)
    (h : AL P w0 X n ops rest ⟨(d, ⟨.lit, .func (.func f) #[.pointer (some ⟨X.fix 0, 0, none⟩)] #[]⟩) :: F, E, nx⟩ Q) : AL P w0 X n ops (o :: rest) ⟨F, E, nx⟩ Q :=
  AL.litv hgd (fun c e => by rw [ho] at e; cases e) hd hdn _ (fun β a w hs => by
    unfold execOp
    simp only [ho]
    refine run_v ?_
    rw [show (#[x] : Array Operand).map a.eval = #[a.eval x] from by simp, pin_eval hK1 hs hx]
    simp [Instr.makeFunc]) h
/-- a variable of two cells, out of its value -/
theorem AL.box2 (hX : X.Ok w0) {o : Oper} {rest : List Oper} {t : TypeId} {x : Operand} (ho : o.op = .box t x) (hgd : o.guard = none) {d : Nat} (hd : o.dst = some d) (hdn : Nat.blt d n = true) {A : Ty} {p : A.T} {q : Value} (hx : evO F x = ⟨.hcons A (.hcons .lit .unit), (p, (q, ()))⟩)
    (hA : A.plainL = true) (hbA : (⟨A, p⟩ : V).bound = 0) (h : AL P w0 X n ops rest ⟨(d, ⟨.hptr, (nx, (0 : Nat))⟩) :: F, (nx, some (.hbox [⟨A, p⟩, ⟨.lit, q⟩])) :: E, nx + 1⟩ Q) : AL P w0 X n ops (o :: rest) ⟨F, E, nx⟩ Q := by
  refine AL.hand hgd (fun c e => by rw [ho] at e; cases e) fun β a w hs => ?_
  have hlt : d < n := by simpa using hdn
  have h1 := hs.ops x
  rw [show evO (AS.mk F E nx).F x = _ from hx] at h1
  obtain ⟨c, s, e1, hc, r1, h2⟩ := h1
  obtain ⟨c2, s2, e2, hc2, r2, h3⟩ := h2
  obtain ⟨cs, e3, h3⟩ : ∃ cs : List Value, (Value.agg s2.toArray) = .agg cs.toArray ∧ RepC w (OSet X E β) .unit () cs := (RepD.agg rfl).1 h3
  have h3 : cs = [] := h3
  subst h3
  have e3 : s2 = [] := by
    have := Value.agg.inj e3
    simpa using congrArg Array.toList this
  subst e3
  have e2 : s = [c2] := by
    have := Value.agg.inj e2
    simpa using congrArg Array.toList this
  subst e2
  refine wp_run (u := .pointer (some ⟨w.heap.size, 0, none⟩)) (w' := w.alloc (.cells #[c, c2] t (0, 0))) ?_ ?_
  · unfold execOp
    simp only [ho]
    refine run_v ?_
    rw [e1]
    simp [Instr.box, newVar, newRow, Value.cells, go_sem]
  · rw [hd]
    have hk : Below w.heap.size w (w.alloc (.cells #[c, c2] t (0, 0))) := (Below.refl _ w).alloc (Nat.le_refl _) (.cells #[c, c2] t (0, 0))
    obtain ⟨β', h4⟩ := hs.make hX hk (bv := .pointer (some ⟨w.heap.size, 0, none⟩)) (o := .hbox [⟨A, p⟩, ⟨.lit, q⟩])
      (fun O β' hO => by
        have hkk : Keeps w (w.alloc (.cells #[c, c2] t (0, 0))) (OSet X E β) O := .of_below hk fun g hg hg' => by
          rcases hO g hg' with h5 | h5
          · exact h5
          · simp [blockOf] at h5
            omega
        exact ⟨w.heap.size, [c, c2], t, rfl, Nat.zero_le _, World.alloc_heap_new w _, ⟨c, [c2], rfl, hc, RepV.plainL hkk hA r1, ⟨c2, [], rfl, hc2, r2, rfl⟩⟩⟩) (fun g hg => by cases hg; exact Nat.le_refl _) (v := ⟨.hptr, (nx, (0 : Nat))⟩) (u := .pointer (some ⟨w.heap.size, 0, none⟩))
      (fun O β' hb => ⟨w.heap.size, by show blockOf (β' nx) = _; rw [show β' nx = _ from hb]; rfl, rfl⟩) (Nat.le_refl _) hlt (fun vs e v hv => by
        cases e
        rcases List.mem_cons.1 hv with rfl | hv
        · rw [hbA]; exact Nat.zero_le _
        · rw [List.mem_singleton.1 hv]; exact Nat.zero_le _)
    exact ⟨_, β', h4, h⟩
/-! ### arrays of functions -/
structure FnArr (P : Program) (t : TypeId) (m : Nat) : Prop where
  size : ∀ w, (sizeOf t).run P w = .ok m w
  alloc : ∀ (w : World) (ev : Operand → Value) (o : Oper), o.op = .alloc t → (execOp ev o).run P w = .ok (.value (.pointer (some ⟨w.heap.size, 0, none⟩))) (w.alloc (.cells (List.replicate m Value.nilFunc).toArray t (0, 0)))
  at_ : ∀ (w : World) (ev : Operand → Value) (o : Oper) (p i : Operand) (g k : Nat), k < m → o.op = .indexAddr t p i → ev p = .pointer (some ⟨g, 0, none⟩) → ev i = .int .i64 (k : Int) → (execOp ev o).run P w = .ok (.value (.pointer (some ⟨g, k, none⟩))) w
def lits (us : List Value) : List V := us.map fun u => ⟨.lit, u⟩
theorem repH_lits {w : World} {O : Nat → Prop} {β : Nat → Value} : ∀ {us : List Value}, (∀ u ∈ us, u.oneCell' = true) → RepH w O β (lits us) us
  | [], _ => rfl
  | u :: us, h => ⟨u, us, rfl, h u (List.mem_cons_self ..), rfl, repH_lits fun v hv => h v (List.mem_cons_of_mem _ hv)⟩
theorem lits_bound {us : List Value} {k : Nat} : ∀ v ∈ lits us, v.bound ≤ k := fun v hv => by
  obtain ⟨u, _, rfl⟩ := List.mem_map.1 hv
  exact Nat.zero_le _
theorem AL.newA {t : TypeId} {m : Nat} (ht : FnArr P t m) (hX : X.Ok w0) {o : Oper} {rest : List Oper} (ho : o.op = .alloc t) (hgd : o.guard = none) {d : Nat} (hd : o.dst = some d) (hdn : Nat.blt d n = true)
    (h : AL P w0 X n ops rest ⟨(d, ⟨.hptr, (nx, (0 : Nat))⟩) :: F, (nx, some (.hbox (lits (List.replicate m .nilFunc)))) :: E, nx + 1⟩ Q) : AL P w0 X n ops (o :: rest) ⟨F, E, nx⟩ Q := by
  refine AL.hand hgd (fun c e => by rw [ho] at e; cases e) fun β a w hs => ?_
  have hlt : d < n := by simpa using hdn
  refine wp_run (u := .pointer (some ⟨w.heap.size, 0, none⟩)) (w' := w.alloc (.cells (List.replicate m Value.nilFunc).toArray t (0, 0))) ?_ ?_
  · exact ht.alloc w a.eval o ho
  · rw [hd]
    obtain ⟨β', h1⟩ := hs.make hX ((Below.refl _ w).alloc (Nat.le_refl _) (.cells (List.replicate m Value.nilFunc).toArray t (0, 0))) (bv := .pointer (some ⟨w.heap.size, 0, none⟩)) (o := .hbox (lits (List.replicate m .nilFunc)))
      (fun O β' _ => ⟨w.heap.size, List.replicate m .nilFunc, t, rfl, Nat.zero_le _, World.alloc_heap_new w _, repH_lits fun u hu => by rw [List.eq_of_mem_replicate hu]; rfl⟩) (fun g hg => by cases hg; exact Nat.le_refl _) (v := ⟨.hptr, (nx, (0 : Nat))⟩) (u := .pointer (some ⟨w.heap.size, 0, none⟩))
      (fun O β' hb => ⟨w.heap.size, by show blockOf (β' nx) = _; rw [show β' nx = _ from hb]; rfl, rfl⟩) (Nat.le_refl _) hlt (fun vs e v hv => by cases e; exact lits_bound v hv)
    exact ⟨_, β', h1, h⟩
theorem AL.setA {t : TypeId} {m : Nat} (ht : FnArr P t m) {o : Oper} {rest : List Oper} {p x : Operand} (ho : o.op = .store t p x) (hgd : o.guard = none) (hd : o.dst = none) {i : Nat} (hp : evO F p = ⟨.hptr, (i, (0 : Nat))⟩) {vs : List V} (hE : Owns.get E i = some (.hbox vs)) (hvs : vs.length = m) {us : List Value} (hus : us.length = m) (hone : ∀ u ∈ us, u.oneCell' = true) (hx : evO F x = ⟨.lit, .agg us.toArray⟩)
    (h : AL P w0 X n ops rest ⟨F, (i, some (.hbox (lits us))) :: E, nx⟩ Q) : AL P w0 X n ops (o :: rest) ⟨F, E, nx⟩ Q := by
  refine AL.hand hgd (fun c e => by rw [ho] at e; cases e) fun β a w hs => ?_
  have h1 := hs.ops p
  rw [show evO (AS.mk F E nx).F p = _ from hp] at h1
  obtain ⟨g, hg1, hg2⟩ := h1
  obtain ⟨g', cs, ty, e1, _, e3, e4⟩ := hs.own _ _ hE
  have hgg : g' = g := by
    have hg1 : blockOf (β i) = some g := hg1
    rw [e1] at hg1
    simpa [blockOf] using hg1
  subst hgg
  have hcl : cs.length = m := by rw [← e4.len]; exact hvs
  have hev := lit_eval hs hx
  have hrun : (Instr.storeAt t (.pointer (some ⟨g', 0, none⟩)) (a.eval x)).run P w = .ok () (w.setRow g' us.toArray) := by
    have hrun := run_storeCells_at P g' 0 ty us 0 (List.toArray cs) w e3 (by simp [hus, hcl]) hone
    simp only [Nat.add_zero] at hrun
    unfold Instr.storeAt Instr.sureAddr storeVar
    simp only [Sem.run_bind, Sem.run_pure, Result.andThen_ok, ht.size, hev]
    have hsz : (Value.agg us.toArray).cells.size = m := by simp [Value.cells, hus]
    rw [if_neg (by rw [hsz]; simp)]
    have hca : (Value.agg us.toArray).cells.toList = us := by simp [Value.cells]
    rw [hca, hrun]
    congr 2
    simp [List.drop_eq_nil_of_le, hus, hcl]
  unfold Oper.wp
  have e : (execOp a.eval o).run P w = .ok .skip (w.setRow g' us.toArray) := by
    unfold execOp
    simp only [ho]
    rw [hg2]
    simp [hrun]
  rw [e]
  show ∃ σ' β', Sim w0 X n σ' β' (a.put o.dst undef) _ ∧ _
  rw [hd]
  exact ⟨_, β, hs.write (o' := .hbox (lits us)) hE (by rw [e1]; exact grownBy_row w g' _) (fun hk => ⟨g', us, ty, e1, Nat.zero_le _, setRow_heap w g' cs.toArray _ ty _ e3, repH_lits hone⟩) rfl (fun ws e v hv => by cases e; exact lits_bound v hv), h⟩
theorem repH_get {w : World} {O : Nat → Prop} {β : Nat → Value} : ∀ {vs : List V} {cs : List Value} {k : Nat} {v : V}, RepH w O β vs cs → vs[k]? = some v → ∃ c, cs[k]? = some c ∧ RepV w O β v.t v.x c
  | [], _, k, v, _, h => by simp at h
  | v0 :: r, _, k, v, ⟨u, s, rfl, _, h1, h2⟩, h => by
    cases k with
    | zero => cases h; exact ⟨u, rfl, h1⟩
    | succ k =>
      obtain ⟨c, hc, hv⟩ := repH_get h2 (k := k) (v := v) (by simpa using h)
      exact ⟨c, by simpa using hc, hv⟩
/-- the k-th function of the array: its address and its value -/
theorem AL.getA {t et : TypeId} {m : Nat} (ht : FnArr P t m) (he : FnTy P et) {o1 o2 : Oper} {rest : List Oper} {p i : Operand} (ho1 : o1.op = .indexAddr t p i) (hg1 : o1.guard = none) {d1 : Nat} (hd1 : o1.dst = some d1) (hn1 : Nat.blt d1 n = true) {x : Operand} (ho2 : o2.op = .load et x) (hg2 : o2.guard = none) {d2 : Nat} (hd2 : o2.dst = some d2) (hn2 : Nat.blt d2 n = true)
    (hx : x = .tmp d1) {j : Nat} (hp : evO F p = ⟨.hptr, (j, (0 : Nat))⟩) {us : List Value} (hE : Owns.get E j = some (.hbox (lits us))) (k : Nat) (hk : k < m) (hi : evO F i = ⟨.int .i64, ((k : Nat) : Int)⟩) {u : Value} (hu : us[k]? = some u) (hj : Nat.blt j nx = true)
    (h : AL P w0 X n ops rest ⟨(d2, ⟨.lit, u⟩) :: (d1, ⟨.hptr, (j, k)⟩) :: F, E, nx⟩ Q) : AL P w0 X n ops (o1 :: o2 :: rest) ⟨F, E, nx⟩ Q := by
  have hjn : j < nx := by simpa using hj
  refine AL.hand hg1 (fun c e => by rw [ho1] at e; cases e) fun β a w hs => ?_
  have h1 := hs.ops p
  rw [show evO (AS.mk F E nx).F p = _ from hp] at h1
  obtain ⟨g, hgb, hgp⟩ := h1
  have hgp : a.eval p = .pointer (some ⟨g, 0, none⟩) := hgp
  have h2 := hs.ops i
  rw [show evO (AS.mk F E nx).F i = _ from hi] at h2
  have h3 : [a.eval i] = [.int .i64 (k : Int)] := (RepD.scalar (t := .int .i64) rfl).1 h2
  have h3 := List.head_eq_of_cons_eq h3
  refine valH_wp hd1 hn1 (v := ⟨.hptr, (j, k)⟩) (by exact hjn) (N := fun σ' => AL P w0 X n ops (o2 :: rest) σ' Q) ?_ hs (ht.at_ w a.eval o1 p i g k hk ho1 hgp h3) ⟨g, hgb, rfl⟩
  refine AL.hand hg2 (fun c e => by rw [ho2] at e; cases e) fun β a w hs => ?_
  have h1 := hs.ops x
  rw [hx, show evO (AS.mk ((d1, (⟨.hptr, (j, k)⟩ : V)) :: F) E nx).F (.tmp d1) = (⟨.hptr, (j, k)⟩ : V) from by show Frame.get _ _ = _; rw [Frame.get_cons, if_pos rfl]] at h1
  obtain ⟨g, hgb, hgp⟩ := h1
  have hgp : a.eval (.tmp d1) = .pointer (some ⟨g, k, none⟩) := hgp
  obtain ⟨g', cs, ty, e1, _, e3, e4⟩ := hs.own _ _ hE
  have hgg : g' = g := by
    have hg1 : blockOf (β j) = some g := hgb
    rw [e1] at hg1
    simpa [blockOf] using hg1
  subst hgg
  obtain ⟨c, hc, hv⟩ := repH_get e4 (k := k) (v := ⟨.lit, u⟩) (by unfold lits; rw [List.getElem?_map, hu]; rfl)
  have hv : c = u := hv
  subst hv
  have hcell : w.cell? ⟨g', k, none⟩ = some c := by simp [World.cell?, e3, hc]
  refine valH_wp hd2 hn2 (v := ⟨.lit, c⟩) (Nat.zero_le _) (N := fun σ' => AL P w0 X n ops rest σ' Q) h hs (u := c) ?_ rfl
  unfold execOp
  simp only [ho2]
  refine run_v ?_
  rw [hx, hgp]
  simp only [Instr.loadAt, Instr.sureAddr, Sem.run_bind, Sem.run_pure, Result.andThen_ok]
  unfold Go.loadVar
  simp only [Sem.run_bind, he.agg, Result.andThen_ok]
  simp [load, Sem.run, hcell]
/-- a call of a method of the pinned variable through its value -/
theorem AL.methCall (hX : X.Ok w0) (hK1 : X.K = 1) {o : Oper} {rest : List Oper} {f : FuncId} {c : HCtr} (hc : HCtrOk P X.G f c) {y : Operand} {ts : Array TypeId} (ho : o.op = .call ⟨.value y, #[], ts⟩) (hgd : o.guard = none) (hy : evO F y = ⟨.lit, .func (.func f) #[.pointer (some ⟨X.fix 0, 0, none⟩)] #[]⟩)
    (a0 : Operand) (hev : evO F a0 = ⟨.hptr, ((0 : Nat), (0 : Nat))⟩) {vs : List V} (hbox : Owns.get E 0 = some (.hbox vs)) {et : Ty} {j : Nat} (hk : vs[c.k]? = some ⟨.obuf et, j⟩) {xsl : List c.et.T} (hbuf : Owns.get E j = some (.buf c.te c.et xsl))
    {x : c.self.T} (hun : unD c.self (vs.set c.k ⟨.slice c.et, xsl⟩) = some (x, [])) (hd : allData c.args = true) (hfl : c.res.flat = true)
    {q : List Prop} {xs : Args c.args} (hav : argsV E false [] c.args = some (q, xs)) (hq : allP q) (hpre : allP (c.pre x xs)) (hinv : ∀ w R, (∀ g, R g → w0.heap.size ≤ g ∨ X.R g) → X.G w → c.inv w R) {F' : c.res.T → Frame} (hput : ∀ y, putD n o.dst (resV c.res y) (Frame.kill j F) = some (F' y))
    (h : HNext (fun y x' => AL P w0 X n ops rest ⟨F' y, (0, some (.hbox (c.lv j x'))) :: (j, some (.buf c.te c.et (c.sl x'))) :: Owns.kill j E, nx⟩ Q) (fun pv => Q (.panic [{ v := pv, recovered := false }]) ⟨F, (0, none) :: (j, none) :: E, nx⟩) (c.out x xs)) : AL P w0 X n ops (o :: rest) ⟨F, E, nx⟩ Q :=
  AL.hand hgd (fun c e => by rw [ho] at e; cases e) (hcallG_wp hX hc (a0 := a0) (as := []) (fun β a w hs hen => by
    have h1 := lit_eval hs hy
    have h2 := pin_eval hK1 hs hev
    unfold execOp
    simp [ho, resolve, invoke, Deferred.ofValue, h1, h2, hen]) rfl hev hbox hk hbuf hun hd hfl hav hq hpre hinv hput (N := fun σ' => AL P w0 X n ops rest σ' Q) h)
end
end Go.Proofs.YtbbeldmcdjjnbaaDoor
