/-
  Operations and regions that hold of a plain frame hold of every frame that no fence shuts in, a round's too; a call of yield. No program is read here.
-/
import Derived.Test.YtpepbnieocdpbaaDoorAbsNew
import Derived.Scope
import Derived.RangeFuncKeeps
import Derived.RangeFuncCalls
import Derived.LoopNIn
import Derived.OrdersIn
import Derived.OwnWalkIn
import Derived.RangeFuncLeaves
namespace Go.Proofs.YtpepbnieocdpbaaDoor
open Go Go.RowKit
set_option linter.unusedSimpArgs false
set_option linter.unusedVariables false

/-- the fence that shuts nothing out, of a plain frame or of a round's -/
def wideR : Option Nat → Fence
  | none => Fence.wide
  | some l => Fence.wide.inRound l
theorem wideR_fn (ρ : Option Nat) (f : FuncId) : (wideR ρ).fn f := by cases ρ <;> trivial
theorem wideR_depth (ρ : Option Nat) : (wideR ρ).depth = none := by cases ρ <;> rfl
theorem wideR_round (ρ : Option Nat) : (wideR ρ).round = ρ := by cases ρ <;> rfl
theorem callsIn_wideR {ρ : Option Nat} {n : Nat} {P : Program} {f : FuncId} {args : Array Value} {w : World} {R : Ending → World → Prop} (h : Calls P f args w R) : CallsIn (wideR ρ) n P f args w R := by
  cases ρ with
  | none => exact callsIn_wide.2 h
  | some l => exact CallsIn.inRound l (callsIn_wide.2 h)
theorem rowsIn_wideR {ρ : Option Nat} {n : Nat} {P : Program} {row : String} {args : Array Value} {w : World} {R : Value → World → Prop} (h : Rows P row args w R) : RowsIn (wideR ρ) n P row args w R := by
  have key : RowsIn Fence.wide n P row args w R := fun c cs _ => let ⟨v, w', r, s⟩ := h c cs; ⟨v, w', r, stepsIn_wide.2 s⟩
  cases ρ with
  | none => exact key
  | some l => exact key
theorem depth_no {ρ : Option Nat} {p : Prop} : (wideR ρ).depth.isSome = true → p := by rw [wideR_depth]; intro h; cases h
section
variable {P : Program} {ρ : Option Nat} {n : Nat} {ops : Array Oper} {a : Act} {w : World}
theorem wpIn_of_wp {o : Oper} (hd : ∀ c, o.op ≠ .defer c) {N : Act → World → Prop} {R : Exit → Act → World → Prop} (h : o.wp P a w N R) : o.wpIn (wideR ρ) n P a w N R := by
  refine ⟨fun f _ => wideR_fn ρ f, ?_⟩
  rw [Oper.semAt_eq _ _ _ hd]
  unfold Oper.wp at h
  generalize (execOp a.eval o).run P w = r at h
  cases r with
  | ok x w' =>
    cases x with
    | enter f args => exact ⟨depth_no, callsIn_wideR h⟩
    | row r args => exact ⟨depth_no, rowsIn_wideR h⟩
    | round l f tmps assign body => exact h.elim
    | _ => exact h
  | halt x w' => cases x <;> exact h
def noDefer (l : List Oper) : Bool := l.all fun o => match o.op with | .defer _ => false | _ => true
theorem noDefer_of {l : List Oper} (h : noDefer l = true) : ∀ o ∈ l, ∀ c, o.op ≠ .defer c := by
  intro o ho c e
  have := List.all_eq_true.1 h o ho
  rw [e] at this
  cases this
theorem noDefer_cons {o : Oper} {l : List Oper} (h : noDefer (o :: l) = true) : (∀ c, o.op ≠ .defer c) ∧ noDefer l = true :=
  ⟨noDefer_of h o (List.mem_cons_self ..), by simp only [noDefer, List.all_cons, Bool.and_eq_true] at h ⊢; exact h.2⟩
theorem wpListIn_of_wpList {R : Exit → Act → World → Prop} (hno : ¬ LetsOut R) : ∀ (l : List Oper), noDefer l = true → ∀ {a : Act} {w : World}, wpList P ops R l a w → wpListIn (wideR ρ) n P ops R l a w
  | [], _, _, _, h => h
  | o :: l, hl, a, w, h => by
    obtain ⟨hd, hl'⟩ := noDefer_cons hl
    have ih := fun a w h => wpListIn_of_wpList hno l hl' (a := a) (w := w) h
    simp only [wpListIn]
    simp only [wpList] at h
    split at h
    · rename_i hw
      rw [if_pos hw]
      rcases h with h | h
      · exact Oper.wpIn_mono ih (wpIn_of_wp hd h)
      · exact (hno h.2).elim
    · rename_i hw
      rw [if_neg hw]
      exact ⟨fun f _ => wideR_fn ρ f, ih _ _ h⟩
theorem wpOpIn_of_wpOp {R : Exit → Act → World → Prop} (hno : ¬ LetsOut R) (hl : noDefer ops.toList = true) {i : Nat} {N : Act → World → Prop} {a : Act} {w : World} (h : wpOp P ops R i N a w) : wpOpIn (wideR ρ) n P ops R i N a w := by
  unfold wpOp at h
  unfold wpOpIn
  split
  · rename_i e; rw [e] at h; exact h
  · rename_i o e
    rw [e] at h
    have hd := noDefer_of hl o (Array.mem_toList_iff.2 (Array.mem_of_getElem? e))
    simp only at h
    split at h
    · rename_i hw
      rw [if_pos hw]
      rcases h with h | h
      · exact wpIn_of_wp hd h
      · exact (hno h.2).elim
    · rename_i hw
      rw [if_neg hw]
      exact ⟨fun f _ => wideR_fn ρ f, h⟩
theorem wpAnyIn_of_wpAny {R : Exit → Act → World → Prop} {md : Region.Mode} (hno : ¬ LetsOut R) (hl : noDefer ops.toList = true) : ∀ (fuel : Nat) {listed : Array Bool} {a : Act} {w : World}, wpAny P md ops R fuel listed a w → wpAnyIn (wideR ρ) n P md ops R fuel listed a w
  | 0, _, _, _, h => h
  | fuel + 1, listed, a, w, h => ⟨h.1, fun i hi => wpOpIn_mono (fun _ _ h => wpAnyIn_of_wpAny hno hl fuel h) (wpOpIn_of_wpOp hno hl (h.2 i hi))⟩
section regions
variable {K : Kn} {w0 : World} {X : Ownr} {k : Nat} {σ : AS} {β : Nat → Value} {R : Exit → Act → World → Prop}
theorem not_lets {Φ : Act → World → Prop} : ¬ LetsOut (fun e a w => e = .normal ∧ Φ a w) := fun ⟨_, _, h, _⟩ => by cases h
/-- a region in the text's order, in a frame of any round -/
theorem region_wpR (hK : KnOk P X.G K) (hX : X.Ok w0) (h : Sim w0 X k σ β a w) {id : Nat} {r : List Prop × AS} (hd : noDefer ops.toList = true) (hs : aSeq K k ops ops.toList σ = some r) (hp : allP r.1)
    (hR : ∀ β' a' w', Sim w0 X k r.2 β' a' w' → R .normal a' w') : (Code.region id ops false).wpIn (wideR ρ) n P R a w :=
  Go.wpIn_mono (wpIn_region_list (wpListIn_of_wpList (R := fun e a w => e = .normal ∧ ∃ β', Sim w0 X k r.2 β' a w) not_lets _ hd (aSeq_wp hK hX _ h hs hp fun β' _ _ h' => ⟨rfl, β', h'⟩))) fun e a w ⟨he, β', h'⟩ => by
    subst he; exact hR β' a w h'
theorem draw_wpR (hm : P.follows .mixedOrders = true) (hK : KnOk P X.G K) (hX : X.Ok w0) (h : Sim w0 X k σ β a w) {id m : Nat} (hd : noDefer ops.toList = true) (hB : headB ops m = true) {r1 r2 : List Prop × AS} (h1 : aHead K k ops (ops.toList.take m) σ = some r1) (h2 : aSeq K k ops (ops.toList.drop m) r1.2 = some r2)
    (hp1 : allP r1.1) (hp2 : allP r2.1) (hR : ∀ β' a' w', Sim w0 X k r2.2 β' a' w' → R .normal a' w') : (Code.region id ops true).wpIn (wideR ρ) n P R a w :=
  Go.wpIn_mono (wpIn_region_any hm (wpAnyIn_of_wpAny (R := fun e a w => e = .normal ∧ ∃ β', Sim w0 X k r2.2 β' a w) not_lets hd _ (draw_any hK hX h hB h1 h2 hp1 hp2 fun β' _ _ h' => ⟨rfl, β', h'⟩))) fun e a w ⟨he, β', h'⟩ => by
    subst he; exact hR β' a w h'
theorem mark_wpR (hm : P.follows .mixedOrders = true) (hK : KnOk P X.G K) (hX : X.Ok w0) (h : Sim w0 X k σ β a w) {id m : Nat} (hd : noDefer ops.toList = true) (hB : headB ops m = true) {r1 r2 : List Prop × AS} (h1 : mHead K k ops m (ops.toList.take m) σ = some r1) (h2 : aSeq K k ops (ops.toList.drop m) r1.2 = some r2)
    (hp1 : allP r1.1) (hp2 : allP r2.1) (hR : ∀ β' a' w', Sim w0 X k r2.2 β' a' w' → R .normal a' w') : (Code.region id ops true).wpIn (wideR ρ) n P R a w :=
  Go.wpIn_mono (wpIn_region_any hm (wpAnyIn_of_wpAny (R := fun e a w => e = .normal ∧ ∃ β', Sim w0 X k r2.2 β' a w) not_lets hd _ (mark_any hK hX h hB h1 h2 hp1 hp2 fun β' _ _ h' => ⟨rfl, β', h'⟩))) fun e a w ⟨he, β', h'⟩ => by
    subst he; exact hR β' a w h'
theorem new_wpR (hm : P.follows .mixedOrders = true) (hK : KnOk P X.G K) (hX : X.Ok w0) (h : Sim w0 X k σ β a w) {id m : Nat} (hd : noDefer ops.toList = true) (hB : headN ops m = true) {rs : List NOp} (h1 : nHead K k ops σ.E (ops.toList.take m) σ.F [] = some rs)
    {r2 : List Prop × AS} (h2 : aSeq K k ops (ops.toList.drop m) (fins ⟨junks (ops.toList.take m) σ.F, σ.E, σ.nx⟩ rs) = some r2) (hp1 : allP (condsOf rs)) (hp2 : allP r2.1) (hR : ∀ β' a' w', Sim w0 X k r2.2 β' a' w' → R .normal a' w') : (Code.region id ops true).wpIn (wideR ρ) n P R a w :=
  Go.wpIn_mono (wpIn_region_any hm (wpAnyIn_of_wpAny (R := fun e a w => e = .normal ∧ ∃ β', Sim w0 X k r2.2 β' a w) not_lets hd _ (new_any hK hX h hB h1 h2 hp1 hp2 fun β' _ _ h' => ⟨rfl, β', h'⟩))) fun e a w ⟨he, β', h'⟩ => by
    subst he; exact hR β' a w h'
end regions
/-- a loop: a family of what holds at a round's head, a measure -/
theorem wpIn_family {F : Fence} {c : Code} {Q : Exit → Act → World → Prop} {ι : Type} (I : ι → Act → World → Prop) (m : ι → Nat) (i0 : ι) (h0 : I i0 a w)
    (round : ∀ i a w, I i a w → c.wpIn F n P (Exit.then (fun a' w' => ∃ i', m i' < m i ∧ I i' a' w') Q) a w) : (Code.loop c).wpIn F n P Q a w := by
  have key : ∀ k i a w, m i ≤ k → I i a w → Code.roundsIn F n P c Q (k + 1) a w := by
    intro k
    induction k with
    | zero =>
      intro i a w hm h1
      rw [roundsIn_succ]
      refine Go.wpIn_mono (round i a w h1) fun e a' w' h3 => ?_
      cases e with
      | normal => obtain ⟨i', hlt, _⟩ := h3; omega
      | _ => exact h3
    | succ k ih =>
      intro i a w hm h1
      rw [roundsIn_succ]
      refine Go.wpIn_mono (round i a w h1) fun e a' w' h3 => ?_
      cases e with
      | normal => obtain ⟨i', hlt, h4⟩ := h3; exact ih i' a' w' (by omega) h4
      | _ => exact h3
  exact wpIn_loop_rounds (m i0 + 1) (key (m i0) i0 a w (Nat.le_refl _) h0)
/-- two lists, one behind the other -/
theorem wpListIn_append {F : Fence} {R : Exit → Act → World → Prop} : ∀ (l r : List Oper) {a : Act} {w : World}, wpListIn F n P ops (fun e a w => e = .normal ∧ wpListIn F n P ops R r a w) l a w → wpListIn F n P ops R (l ++ r) a w
  | [], r, _, _, h => h.2
  | o :: l, r, a, w, h => by
    simp only [List.cons_append, wpListIn] at h ⊢
    split at h
    · rename_i hw
      rw [if_pos hw]
      have h2 := Oper.wpIn_mono (fun a w h => wpListIn_append l r h) h
      refine ⟨h2.1, ?_⟩
      have h3 := h2.2
      revert h3
      generalize (o.semAt F.round a.eval).run P w = x
      intro h3
      cases x with
      | ok x w' =>
        cases x with
        | enter f args =>
          refine ⟨h3.1, h3.2.mono fun e w'' he => ?_⟩
          cases e with
          | returned v => exact he
          | panicked c => cases he.1
          | outgrown => obtain ⟨_, _, h4⟩ := he; cases h4.1
        | round l f tmps assign body =>
          refine ⟨h3.1, h3.2.mono fun e w'' he => ?_⟩
          cases e with
          | returned v => exact he
          | panicked c => cases he.1
          | outgrown => obtain ⟨_, _, h4⟩ := he; cases h4.1
        | _ => exact h3
      | halt x w' =>
        cases x with
        | panic v => cases h3.1
        | _ => exact h3
    · rename_i hw
      rw [if_neg hw]
      exact ⟨h.1, wpListIn_append l r h.2⟩
/-- a call of yield -/
theorem wpIn_yield {o : Oper} {f : Operand} {args : Array Operand} {ts : Array TypeId} {l m : Nat} (ho : o.op = .call ⟨.value f, args, ts⟩) (hf : a.eval f = .func (.yield l) #[] #[]) {N : Act → World → Prop} {R : Exit → Act → World → Prop} {Y : Ending → World → Prop}
    (hy : YieldAt Fence.wide (m - 1) P l (args.map a.eval) w Y) (hN : ∀ e w', Y e w' → ∃ v, e = .returned v ∧ N (a.put o.dst v) w') : o.wpIn Fence.wide m P a w N R := by
  obtain ⟨fn, tmps, assign, body, h1, h2⟩ := hy
  refine ⟨fun f _ => trivial, ?_⟩
  have hd : ∀ c, o.op ≠ .defer c := fun c e => by rw [ho] at e; cases e
  rw [Oper.semAt_eq _ _ _ hd]
  have hrun : (execOp a.eval o).run P w = .ok (.round l fn tmps assign body) w := by
    unfold execOp
    simp [ho, resolve, invoke, Deferred.ofValue, hf, h1]
  rw [hrun]
  refine ⟨fun h => by simp [Fence.wide] at h, h2.mono fun e w' he => ?_⟩
  obtain ⟨v, rfl, h3⟩ := hN e w' he
  exact h3
end
end Go.Proofs.YtpepbnieocdpbaaDoor
