/-
  A region that draws its order, in all orders, where an operation may panic. A state that is carried from one activation to another. No program is read here.
-/
import Derived.Test.YthhphphdbgkdgaaDoorAbsRound
namespace Go.Proofs.YthhphphdbgkdgaaDoor
open Go Go.RowKit
set_option linter.unusedSimpArgs false
set_option linter.unusedVariables false
section
variable {P : Program} {K : Kn} {w0 : World} {X : Ownr} {n : Nat} {σ : AS} {Q : Exit → AS → Prop} {ops : Array Oper}
/-- one operation, done or left otherwise -/
def StepA (P : Program) (w0 : World) (X : Ownr) (n : Nat) (ops : Array Oper) (o : Oper) (σ : AS) (N : AS → Prop) (Q : Exit → AS → Prop) : Prop :=
  ∀ (β : Nat → Value) (a : Act) (w : World) (I : Act → World → Prop) (R : Exit → Act → World → Prop), Sim w0 X n σ β a w → (∀ σ' β' a' w', Sim w0 X n σ' β' a' w' → N σ' → I a' w') → (∀ e σ' β' a' w', e ≠ .outgrown → Sim w0 X n σ' β' a' w' → Q e σ' → R e a' w') →
    if Region.wanted o (yielded ops a.tmps) then o.wp P a w I R ∨ (o.asks P a w ∧ LetsOut R) else I (a.put o.dst undef) w
theorem StepA.eval (hX : X.Ok w0) (hK : KnOk P X.G K) {o : Oper} {r : List Prop × AS} {N : AS → Prop} (hs : aStep K n ops o σ = some r) (hp : allP r.1) (hN : N r.2) : StepA P w0 X n ops o σ N Q :=
  fun β a w I R hsim hI _ => aStep_wp hK hX hsim hs hp fun β' a' w' h => hI _ β' a' w' h hN
theorem StepA.hand {o : Oper} {N : AS → Prop} (hgd : o.guard = none) (h : ∀ β a w, Sim w0 X n σ β a w → o.wp P a w (fun a' w' => ∃ σ' β', Sim w0 X n σ' β' a' w' ∧ N σ') (fun e a' w' => e ≠ .outgrown ∧ ∃ σ' β', Sim w0 X n σ' β' a' w' ∧ Q e σ')) : StepA P w0 X n ops o σ N Q := by
  intro β a w I R hsim hI hR
  simp only [Region.wanted, hgd, if_true]
  have h0 := h β a w hsim
  have hmono : ∀ a' w', (∃ σ' β', Sim w0 X n σ' β' a' w' ∧ N σ') → I a' w' := fun a' w' ⟨σ', β', h1, h2⟩ => hI σ' β' a' w' h1 h2
  refine .inl (Oper.wp_mono hmono ?_)
  unfold Oper.wp at h0 ⊢
  revert h0
  generalize (execOp a.eval o).run P w = x
  intro h0
  cases x with
  | ok x w' =>
    cases x with
    | enter f args =>
      refine Calls.mono h0 fun e w'' he => ?_
      cases e with
      | returned v => exact he
      | panicked c => obtain ⟨h1, σ', β', h2, h3⟩ := he; exact hR _ σ' β' _ _ h1 h2 h3
      | outgrown => obtain ⟨_, _, h, _⟩ := he; exact (h rfl).elim
    | _ => first | exact h0 | (obtain ⟨_, _, h, _⟩ := h0.2; exact (h rfl).elim) | (obtain ⟨_, _, h, _⟩ := h0; exact (h rfl).elim)
  | halt x w' =>
    cases x with
    | panic v => obtain ⟨h1, σ', β', h2, h3⟩ := h0; exact hR _ σ' β' _ _ h1 h2 h3
    | _ => exact h0
/-- in each order -/
def OrdA (P : Program) (w0 : World) (X : Ownr) (n : Nat) (ops : Array Oper) (Q : Exit → AS → Prop) : Nat → List Nat → AS → Prop
  | 0, _, σ => Q .normal σ
  | f + 1, done, σ => AllN (fun i => ∃ o, ops.toList[i]? = some o ∧ StepA P w0 X n ops o σ (OrdA P w0 X n ops Q f (i :: done)) Q) (readyL done ops.toList 0)
theorem OrdA.step {f : Nat} {done : List Nat} (l : List Nat) (hl : readyL done ops.toList 0 = l) (h : AllN (fun i => ∃ o, ops.toList[i]? = some o ∧ StepA P w0 X n ops o σ (OrdA P w0 X n ops Q f (i :: done)) Q) l) : OrdA P w0 X n ops Q (f + 1) done σ := by
  subst hl
  exact h
theorem OrdA.last {done : List Nat} (h : Q .normal σ) : OrdA P w0 X n ops Q 0 done σ := h
theorem ordersA_any {β : Nat → Value} {a : Act} {w : World} (h : Sim w0 X n σ β a w) (hb : backB ops = true) (ho : OrdA P w0 X n ops Q ops.size [] σ) :
    wpAny P .any ops (fun e a' w' => e ≠ .outgrown ∧ ∃ σ' β', Sim w0 X n σ' β' a' w' ∧ Q e σ') ops.size (Array.replicate ops.size false) a { w with drawn := w.drawn + 1 } := by
  let W := w.drew
  have hsim : Sim w0 X n σ β a W := ⟨h.sz, h.df, h.bel.then ((Below.refl _ _).drew), fun s => RepV.keep (.of_below ((Below.refl _ _).drew) fun _ _ h => h) _ _ _ (h.fr s), fun i o ho => (h.own i o ho).keep (.of_below ((Below.refl _ _).drew) fun _ _ h => h) fun _ _ => rfl, h.new, h.inj, h.lt, h.fix, h.hb, h.hE⟩
  let I : Array Bool → Act → World → Prop := fun listed a' w' => ∃ done s β', listed.size = ops.size ∧ (∀ i, i < ops.size → (listed.getD i false = true ↔ i ∈ done)) ∧ Sim w0 X n s β' a' w' ∧ OrdA P w0 X n ops Q (left listed ops.size) done s
  have hl0 : left (Array.replicate ops.size false) ops.size = ops.size := by
    unfold left
    have : (List.range ops.size).filter (fun i => !(Array.replicate ops.size false).getD i false) = List.range ops.size := by
      rw [List.filter_eq_self]
      intro i _
      rw [getD_replicate_false]
      rfl
    rw [this, List.length_range]
  suffices hkey : wpAny P .any ops (fun e a' w' => e ≠ .outgrown ∧ ∃ σ' β', Sim w0 X n σ' β' a' w' ∧ Q e σ') (left (Array.replicate ops.size false) ops.size + 0) (Array.replicate ops.size false) a W by
    rw [Nat.add_zero, hl0] at hkey
    exact hkey
  refine wpAny_head (Nat.le_refl _) hb (.inl rfl) I ?_ ?_ _ _ a W rfl ⟨by simp, fun j oj _ hlj => (by rw [getD_replicate_false] at hlj; cases hlj), fun t ht1 ht => absurd ht (by omega)⟩ ⟨[], σ, β, by simp, fun i _ => by rw [getD_replicate_false]; simp, hsim, by rw [hl0]; exact ho⟩
  · rintro listed a' w' ⟨done, s, β', hsz, hd, hs, hok⟩ i him hir
    obtain ⟨hun, o, ho, hdone⟩ := mem_ready.1 hir
    have hunf : listed.getD i false = false := getD_both hun
    have hlt := left_set him (by rw [hsz]; exact him) hunf
    rw [← hlt] at hok
    have hmem : 0 + i ∈ readyL done ops.toList 0 := readyL_mem (o := o) (by simpa using ho) (by
      rw [Nat.zero_add]
      cases hh : hasN done i with
      | false => rfl
      | true => rw [(hd i him).2 (hasN_iff.1 hh)] at hunf; cases hunf) fun e he hbd => by
        have h1 := hdone e he hbd
        by_cases hlt : e.on < ops.size
        · exact hasN_iff.2 ((hd _ hlt).1 h1)
        · rw [Array.getD_eq_getD_getElem?, Array.getElem?_eq_none (by omega)] at h1
          cases h1
    rw [Nat.zero_add] at hmem
    obtain ⟨o', h1, h2⟩ := AllN.mem hok hmem
    have : o' = o := by
      rw [Array.getElem?_toList, ho] at h1
      cases h1
      rfl
    subst this
    unfold wpOp
    rw [ho]
    simp only
    refine h2 β' a' w' _ _ hs (fun σ2 β2 a2 w2 hs2 h4 => ⟨i :: done, σ2, β2, by simp [hsz], fun j hj => ?_, hs2, h4⟩) (fun e σ2 β2 a2 w2 hne hs2 hq => ⟨hne, σ2, β2, hs2, hq⟩)
    by_cases hji : i = j
    · subst hji
      simp [Array.getD, hsz, him]
    · rw [getD_set_ne false hji, hd j hj, List.mem_cons]
      constructor
      · exact fun h => .inr h
      · rintro (h | h)
        · exact absurd h.symm hji
        · exact h
  · rintro listed a' w' inv hall ⟨done, s, β', hsz, hd, hs, hok⟩
    have hz : left listed ops.size = 0 := by
      unfold left
      rw [List.length_eq_zero_iff, List.filter_eq_nil_iff]
      intro i hi
      rw [hall i (List.mem_range.1 hi)]
      simp
    rw [hz] at hok
    have hfit : Q .normal s := hok
    refine ⟨?_, (fun h => by cases h), s, β', hs, hfit⟩
    apply List.eq_nil_iff_forall_not_mem.2
    intro i hi
    obtain ⟨hun, o, ho, _⟩ := mem_ready.1 hi
    have hlt := (Array.getElem?_eq_some_iff.1 ho).1
    have := getD_both hun
    rw [hall i hlt] at this
    cases this
/-- a region that draws its order, in all orders; an operation may panic -/
theorem AWP.ordersA (hm : P.follows .mixedOrders = true) {id : Nat} (f : Nat) (hf : ops.toList.length = f) (hb : backB ops = true) (ho : OrdA P w0 X n ops Q f [] σ) (hd : noDefer ops.toList = true := by rfl) : AWP P w0 X n (.region id ops true) σ Q := fun _ _ _ h => by
  have hf' : ops.size = f := hf
  subst hf'
  exact Go.wpIn_mono (wpIn_region_any hm (wpAnyIn_of_wpAny (R := fun e a' w' => e ≠ .outgrown ∧ ∃ σ' β', Sim w0 X n σ' β' a' w' ∧ Q e σ') (fun ⟨_, _, h, _⟩ => h rfl) hd _ (ordersA_any h hb ho))) fun e a w h => h.2
end
/-! ### one activation's state, for another -/
section
variable {w0 w : World} {X X' : Ownr} {n m : Nat} {σ : AS} {β : Nat → Value} {a a' : Act}
theorem Sim.act (h : Sim w0 X n σ β a w) (hx : X'.X = X.X) (hk : X'.K = X.K) (hf : X'.fix = X.fix) (hsz : a'.tmps.size = m) (hdf : a'.defers = X'.D) {F : Frame} (hfr : ∀ s, RepV w (OSet X σ.E β) β (Frame.get F s).t (Frame.get F s).x (a'.tmps.getD s undef)) (hb : bndB σ.nx F = true) (hxb : X'.B = X.B := by rfl) : Sim w0 X' m ⟨F, σ.E, σ.nx⟩ β a' w := by
  have hR : X'.R = X.R := by unfold Ownr.R; rw [hk, hf, hxb]
  have hO : OSet X' σ.E β = OSet X σ.E β := by unfold OSet; rw [hx]
  refine ⟨hsz, hdf, by rw [hR]; exact h.bel, by rw [hO]; exact hfr, by rw [hO]; exact h.own, by rw [hR]; exact h.new, h.inj, h.lt, by rw [hk, hf]; exact h.fix, fun s => bndB_get hb s, h.hE⟩
/-- a state out of variables that lie in known blocks -/
theorem Sim.boxes {F : Frame} {E : Owns} (hsz : a.tmps.size = n) (hdf : a.defers = X.D) (hβ : ∀ i, i < X.K → β i = .pointer (some ⟨X.fix i, 0, none⟩)) (hinj : ∀ i j, i < X.K → j < X.K → X.fix i = X.fix j → i = j)
    (hE : ∀ i o, Owns.get E i = some o → i < X.K ∧ o.isBuf = false ∧ OwnRep w (OSet X E β) β 0 (β i) o ∧ o.under X.K) (hfr : ∀ s, RepV w (OSet X E β) β (Frame.get F s).t (Frame.get F s).x (a.tmps.getD s undef)) (hb : bndB X.K F = true) : Sim w X n ⟨F, E, X.K⟩ β a w := by
  have hblk : ∀ i, i < X.K → blockOf (β i) = some (X.fix i) := fun i hi => by rw [hβ i hi]; rfl
  refine ⟨hsz, hdf, Kept.refl _ _, hfr, fun i o h => (hE i o h).2.2.1, fun i o g h hg => ?_, fun i j oi oj h h' hne g hg hg' => ?_, fun i o h => (hE i o h).1, ⟨Nat.le_refl _, fun i hi => ⟨hblk i hi, fun o ho => (hE i o ho).2.1⟩⟩, fun s => bndB_get hb s, fun i o h => (hE i o h).2.2.2⟩
  · have h1 := (hE i o h).1
    rw [hblk i h1] at hg
    exact .inr (.inl ⟨i, h1, Option.some.inj hg⟩)
  · have h1 := (hE i oi h).1
    have h2 := (hE j oj h').1
    rw [hblk i h1] at hg
    rw [hblk j h2] at hg'
    exact hne (hinj i j h1 h2 (Option.some.inj (hg.trans hg'.symm)))
/-- new memory may have come -/
theorem Sim.grow {w' : World} (h : Sim w0 X n σ β a w) (hk : Below w.heap.size w w') : Sim w0 X n σ β a w' :=
  ⟨h.sz, h.df, h.bel.then hk, fun s => RepV.keep (.of_below hk fun _ _ h => h) _ _ _ (h.fr s), fun i o ho => (h.own i o ho).keep (.of_below hk fun _ _ h => h) fun g hg => hk.block g ((h.own i o ho).block_lt hg).2, h.new, h.inj, h.lt, h.fix, h.hb, h.hE⟩
end
end Go.Proofs.YthhphphdbgkdgaaDoor
