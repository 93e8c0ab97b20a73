/-
  Operations and regions that hold of a plain frame hold of every frame that no fence shuts in, a round's too; a call of yield. No program is read here.
  Code on plain states: rules; a contract out of a walk. No program is read here.
  What is known of a program, out of closed tests. No program is read here.
-/
import Derived.Test.YtbbeldmcdjjnbaaDoorAbsDraw
import Derived.Scope
import Derived.RangeFuncKeeps
import Derived.RangeFuncCalls
import Derived.LoopNIn
import Derived.OrdersIn
import Derived.OwnWalkIn
import Derived.RangeFuncLeaves
namespace Go.Proofs.YtbbeldmcdjjnbaaDoor
open Go Go.RowKit
set_option linter.unusedSimpArgs false
set_option linter.unusedVariables false

/-- the fence that shuts nothing out, of a plain frame or of a round's -/
def wideR : Option Nat → Fence
  | none => Fence.wide
  | some l => Fence.wide.inRound l
theorem wideR_fn (ρ : Option Nat) (f : FuncId) : (wideR ρ).fn f := by cases ρ <;> trivial
theorem wideR_depth (ρ : Option Nat) : (wideR ρ).depth = none := by cases ρ <;> rfl
theorem wideR_round (ρ : Option Nat) : (wideR ρ).round = ρ := by cases ρ <;> rfl
theorem callsIn_wideR {ρ : Option Nat} {n : Nat} {P : Program} {f : FuncId} {args : Array Value} {w : World} {R : Ending → World → Prop} (h : Calls P f args w R) : CallsIn (wideR ρ) n P f args w R := by
  cases ρ with
  | none => exact callsIn_wide.2 h
  | some l => exact CallsIn.inRound l (callsIn_wide.2 h)
theorem rowsIn_wideR {ρ : Option Nat} {n : Nat} {P : Program} {row : String} {args : Array Value} {w : World} {R : Value → World → Prop} (h : Rows P row args w R) : RowsIn (wideR ρ) n P row args w R := by
  have key : RowsIn Fence.wide n P row args w R := fun c cs _ => let ⟨v, w', r, s⟩ := h c cs; ⟨v, w', r, stepsIn_wide.2 s⟩
  cases ρ with
  | none => exact key
  | some l => exact key
theorem depth_no {ρ : Option Nat} {p : Prop} : (wideR ρ).depth.isSome = true → p := by rw [wideR_depth]; intro h; cases h
section
variable {P : Program} {ρ : Option Nat} {n : Nat} {ops : Array Oper} {a : Act} {w : World}
theorem wpIn_of_wp {o : Oper} (hd : ∀ c, o.op ≠ .defer c) {N : Act → World → Prop} {R : Exit → Act → World → Prop} (h : o.wp P a w N R) : o.wpIn (wideR ρ) n P a w N R := by
  refine ⟨fun f _ => wideR_fn ρ f, ?_⟩
  rw [Oper.semAt_eq _ _ _ hd]
  unfold Oper.wp at h
  generalize (execOp a.eval o).run P w = r at h
  cases r with
  | ok x w' =>
    cases x with
    | enter f args => exact ⟨depth_no, callsIn_wideR h⟩
    | row r args => exact ⟨depth_no, rowsIn_wideR h⟩
    | round l f tmps assign body => exact h.elim
    | _ => exact h
  | halt x w' => cases x <;> exact h
def noDefer (l : List Oper) : Bool := l.all fun o => match o.op with | .defer _ => false | _ => true
theorem noDefer_of {l : List Oper} (h : noDefer l = true) : ∀ o ∈ l, ∀ c, o.op ≠ .defer c := by
  intro o ho c e
  have := List.all_eq_true.1 h o ho
  rw [e] at this
  cases this
theorem noDefer_cons {o : Oper} {l : List Oper} (h : noDefer (o :: l) = true) : (∀ c, o.op ≠ .defer c) ∧ noDefer l = true :=
  ⟨noDefer_of h o (List.mem_cons_self ..), by simp only [noDefer, List.all_cons, Bool.and_eq_true] at h ⊢; exact h.2⟩
theorem wpListIn_of_wpList {R : Exit → Act → World → Prop} (hno : ¬ LetsOut R) : ∀ (l : List Oper), noDefer l = true → ∀ {a : Act} {w : World}, wpList P ops R l a w → wpListIn (wideR ρ) n P ops R l a w
  | [], _, _, _, h => h
  | o :: l, hl, a, w, h => by
    obtain ⟨hd, hl'⟩ := noDefer_cons hl
    have ih := fun a w h => wpListIn_of_wpList hno l hl' (a := a) (w := w) h
    simp only [wpListIn]
    simp only [wpList] at h
    split at h
    · rename_i hw
      rw [if_pos hw]
      rcases h with h | h
      · exact Oper.wpIn_mono ih (wpIn_of_wp hd h)
      · exact (hno h.2).elim
    · rename_i hw
      rw [if_neg hw]
      exact ⟨fun f _ => wideR_fn ρ f, ih _ _ h⟩
theorem wpOpIn_of_wpOp {R : Exit → Act → World → Prop} (hno : ¬ LetsOut R) (hl : noDefer ops.toList = true) {i : Nat} {N : Act → World → Prop} {a : Act} {w : World} (h : wpOp P ops R i N a w) : wpOpIn (wideR ρ) n P ops R i N a w := by
  unfold wpOp at h
  unfold wpOpIn
  split
  · rename_i e; rw [e] at h; exact h
  · rename_i o e
    rw [e] at h
    have hd := noDefer_of hl o (Array.mem_toList_iff.2 (Array.mem_of_getElem? e))
    simp only at h
    split at h
    · rename_i hw
      rw [if_pos hw]
      rcases h with h | h
      · exact wpIn_of_wp hd h
      · exact (hno h.2).elim
    · rename_i hw
      rw [if_neg hw]
      exact ⟨fun f _ => wideR_fn ρ f, h⟩
theorem wpAnyIn_of_wpAny {R : Exit → Act → World → Prop} {md : Region.Mode} (hno : ¬ LetsOut R) (hl : noDefer ops.toList = true) : ∀ (fuel : Nat) {listed : Array Bool} {a : Act} {w : World}, wpAny P md ops R fuel listed a w → wpAnyIn (wideR ρ) n P md ops R fuel listed a w
  | 0, _, _, _, h => h
  | fuel + 1, listed, a, w, h => ⟨h.1, fun i hi => wpOpIn_mono (fun _ _ h => wpAnyIn_of_wpAny hno hl fuel h) (wpOpIn_of_wpOp hno hl (h.2 i hi))⟩
section regions
variable {K : Kn} {w0 : World} {X : Ownr} {k : Nat} {σ : AS} {β : Nat → Value} {R : Exit → Act → World → Prop}
theorem not_lets {Φ : Act → World → Prop} : ¬ LetsOut (fun e a w => e = .normal ∧ Φ a w) := fun ⟨_, _, h, _⟩ => by cases h
/-- a region in the text's order, in a frame of any round -/
theorem region_wpR (hK : KnOk P X.G K) (hX : X.Ok w0) (h : Sim w0 X k σ β a w) {id : Nat} {r : List Prop × AS} (hd : noDefer ops.toList = true) (hs : aSeq K k ops ops.toList σ = some r) (hp : allP r.1)
    (hR : ∀ β' a' w', Sim w0 X k r.2 β' a' w' → R .normal a' w') : (Code.region id ops false).wpIn (wideR ρ) n P R a w :=
  Go.wpIn_mono (wpIn_region_list (wpListIn_of_wpList (R := fun e a w => e = .normal ∧ ∃ β', Sim w0 X k r.2 β' a w) not_lets _ hd (aSeq_wp hK hX _ h hs hp fun β' _ _ h' => ⟨rfl, β', h'⟩))) fun e a w ⟨he, β', h'⟩ => by
    subst he; exact hR β' a w h'
theorem draw_wpR (hm : P.follows .mixedOrders = true) (hK : KnOk P X.G K) (hX : X.Ok w0) (h : Sim w0 X k σ β a w) {id m : Nat} (hd : noDefer ops.toList = true) (hB : headB ops m = true) {r1 r2 : List Prop × AS} (h1 : aHead K k ops (ops.toList.take m) σ = some r1) (h2 : aSeq K k ops (ops.toList.drop m) r1.2 = some r2)
    (hp1 : allP r1.1) (hp2 : allP r2.1) (hR : ∀ β' a' w', Sim w0 X k r2.2 β' a' w' → R .normal a' w') : (Code.region id ops true).wpIn (wideR ρ) n P R a w :=
  Go.wpIn_mono (wpIn_region_any hm (wpAnyIn_of_wpAny (R := fun e a w => e = .normal ∧ ∃ β', Sim w0 X k r2.2 β' a w) not_lets hd _ (draw_any hK hX h hB h1 h2 hp1 hp2 fun β' _ _ h' => ⟨rfl, β', h'⟩))) fun e a w ⟨he, β', h'⟩ => by
    subst he; exact hR β' a w h'
theorem mark_wpR (hm : P.follows .mixedOrders = true) (hK : KnOk P X.G K) (hX : X.Ok w0) (h : Sim w0 X k σ β a w) {id m : Nat} (hd : noDefer ops.toList = true) (hB : headB ops m = true) {r1 r2 : List Prop × AS} (h1 : mHead K k ops m (ops.toList.take m) σ = some r1) (h2 : aSeq K k ops (ops.toList.drop m) r1.2 = some r2)
    (hp1 : allP r1.1) (hp2 : allP r2.1) (hR : ∀ β' a' w', Sim w0 X k r2.2 β' a' w' → R .normal a' w') : (Code.region id ops true).wpIn (wideR ρ) n P R a w :=
  Go.wpIn_mono (wpIn_region_any hm (wpAnyIn_of_wpAny (R := fun e a w => e = .normal ∧ ∃ β', Sim w0 X k r2.2 β' a w) not_lets hd _ (mark_any hK hX h hB h1 h2 hp1 hp2 fun β' _ _ h' => ⟨rfl, β', h'⟩))) fun e a w ⟨he, β', h'⟩ => by
    subst he; exact hR β' a w h'
theorem new_wpR (hm : P.follows .mixedOrders = true) (hK : KnOk P X.G K) (hX : X.Ok w0) (h : Sim w0 X k σ β a w) {id m : Nat} (hd : noDefer ops.toList = true) (hB : headN ops m = true) {rs : List NOp} (h1 : nHead K k ops σ.E (ops.toList.take m) σ.F [] = some rs)
    {r2 : List Prop × AS} (h2 : aSeq K k ops (ops.toList.drop m) (fins ⟨junks (ops.toList.take m) σ.F, σ.E, σ.nx⟩ rs) = some r2) (hp1 : allP (condsOf rs)) (hp2 : allP r2.1) (hR : ∀ β' a' w', Sim w0 X k r2.2 β' a' w' → R .normal a' w') : (Code.region id ops true).wpIn (wideR ρ) n P R a w :=
  Go.wpIn_mono (wpIn_region_any hm (wpAnyIn_of_wpAny (R := fun e a w => e = .normal ∧ ∃ β', Sim w0 X k r2.2 β' a w) not_lets hd _ (new_any hK hX h hB h1 h2 hp1 hp2 fun β' _ _ h' => ⟨rfl, β', h'⟩))) fun e a w ⟨he, β', h'⟩ => by
    subst he; exact hR β' a w h'
end regions
/-- a loop: a family of what holds at a round's head, a measure -/
theorem wpIn_family {F : Fence} {c : Code} {Q : Exit → Act → World → Prop} {ι : Type} (I : ι → Act → World → Prop) (m : ι → Nat) (i0 : ι) (h0 : I i0 a w)
    (round : ∀ i a w, I i a w → c.wpIn F n P (Exit.then (fun a' w' => ∃ i', m i' < m i ∧ I i' a' w') Q) a w) : (Code.loop c).wpIn F n P Q a w := by
  have key : ∀ k i a w, m i ≤ k → I i a w → Code.roundsIn F n P c Q (k + 1) a w := by
    intro k
    induction k with
    | zero =>
      intro i a w hm h1
      rw [roundsIn_succ]
      refine Go.wpIn_mono (round i a w h1) fun e a' w' h3 => ?_
      cases e with
      | normal => obtain ⟨i', hlt, _⟩ := h3; omega
      | _ => exact h3
    | succ k ih =>
      intro i a w hm h1
      rw [roundsIn_succ]
      refine Go.wpIn_mono (round i a w h1) fun e a' w' h3 => ?_
      cases e with
      | normal => obtain ⟨i', hlt, h4⟩ := h3; exact ih i' a' w' (by omega) h4
      | _ => exact h3
  exact wpIn_loop_rounds (m i0 + 1) (key (m i0) i0 a w (Nat.le_refl _) h0)
/-- two lists, one behind the other -/
theorem wpListIn_append {F : Fence} {R : Exit → Act → World → Prop} : ∀ (l r : List Oper) {a : Act} {w : World}, wpListIn F n P ops (fun e a w => e = .normal ∧ wpListIn F n P ops R r a w) l a w → wpListIn F n P ops R (l ++ r) a w
  | [], r, _, _, h => h.2
  | o :: l, r, a, w, h => by
    simp only [List.cons_append, wpListIn] at h ⊢
    split at h
    · rename_i hw
      rw [if_pos hw]
      have h2 := Oper.wpIn_mono (fun a w h => wpListIn_append l r h) h
      refine ⟨h2.1, ?_⟩
      have h3 := h2.2
      revert h3
      generalize (o.semAt F.round a.eval).run P w = x
      intro h3
      cases x with
      | ok x w' =>
        cases x with
        | enter f args =>
          refine ⟨h3.1, h3.2.mono fun e w'' he => ?_⟩
          cases e with
          | returned v => exact he
          | panicked c => cases he.1
          | outgrown => obtain ⟨_, _, h4⟩ := he; cases h4.1
        | round l f tmps assign body =>
          refine ⟨h3.1, h3.2.mono fun e w'' he => ?_⟩
          cases e with
          | returned v => exact he
          | panicked c => cases he.1
          | outgrown => obtain ⟨_, _, h4⟩ := he; cases h4.1
        | _ => exact h3
      | halt x w' =>
        cases x with
        | panic v => cases h3.1
        | _ => exact h3
    · rename_i hw
      rw [if_neg hw]
      exact ⟨h.1, wpListIn_append l r h.2⟩
/-- a call of yield -/
theorem wpIn_yield {o : Oper} {f : Operand} {args : Array Operand} {ts : Array TypeId} {l m : Nat} (ho : o.op = .call ⟨.value f, args, ts⟩) (hf : a.eval f = .func (.yield l) #[] #[]) {N : Act → World → Prop} {R : Exit → Act → World → Prop} {Y : Ending → World → Prop}
    (hy : YieldAt Fence.wide (m - 1) P l (args.map a.eval) w Y) (hN : ∀ e w', Y e w' → ∃ v, e = .returned v ∧ N (a.put o.dst v) w') : o.wpIn Fence.wide m P a w N R := by
  obtain ⟨fn, tmps, assign, body, h1, h2⟩ := hy
  refine ⟨fun f _ => trivial, ?_⟩
  have hd : ∀ c, o.op ≠ .defer c := fun c e => by rw [ho] at e; cases e
  rw [Oper.semAt_eq _ _ _ hd]
  have hrun : (execOp a.eval o).run P w = .ok (.round l fn tmps assign body) w := by
    unfold execOp
    simp [ho, resolve, invoke, Deferred.ofValue, hf, h1]
  rw [hrun]
  refine ⟨fun h => by simp [Fence.wide] at h, h2.mono fun e w' he => ?_⟩
  obtain ⟨v, rfl, h3⟩ := hN e w' he
  exact h3
end
end Go.Proofs.YtbbeldmcdjjnbaaDoor
namespace Go.Proofs.YtbbeldmcdjjnbaaDoor
open Go Go.RowKit
set_option linter.unusedSimpArgs false
set_option linter.unusedVariables false

/-- from every activation and world that stand for σ the code comes to ones that stand for what Q says -/
def AWP (P : Program) (w0 : World) (X : Ownr) (n : Nat) (c : Code) (σ : AS) (Q : Exit → AS → Prop) : Prop :=
  ∀ β a w, Sim w0 X n σ β a w → c.wpIn (wideR X.ρ) 0 P (fun e a' w' => ∃ σ' β', Sim w0 X n σ' β' a' w' ∧ Q e σ') a w
def thenQ (N : AS → Prop) (Q : Exit → AS → Prop) : Exit → AS → Prop
  | .normal, σ => N σ
  | e, σ => Q e σ
def blockQ (id : Nat) (Q : Exit → AS → Prop) : Exit → AS → Prop
  | .exit j, σ => bif Nat.beq j id then Q .normal σ else Q (.exit j) σ
  | e, σ => Q e σ
/-- F' knows no more than F -/
def Sub (F : Frame) : List (Nat × V) → Prop
  | [] => True
  | (s, v) :: r => Frame.get F s = v ∧ Sub F r
theorem Sub.get {F F' : Frame} (h : Sub F F') : ∀ s, Frame.get F' s = Frame.get F s ∨ Frame.get F' s = ⟨.junk, ()⟩ := by
  induction F' with
  | nil => exact fun s => .inr rfl
  | cons p r ih =>
    obtain ⟨d, v⟩ := p
    intro s
    rw [Frame.get_cons]
    by_cases hs : d = s
    · rw [if_pos hs]; exact .inl (hs ▸ h.1.symm)
    · rw [if_neg hs]; exact ih h.2 s
section
variable {P : Program} {K : Kn} {w0 : World} {X : Ownr} {n : Nat} {σ : AS} {Q : Exit → AS → Prop}

theorem AWP.mono {c : Code} {Q' : Exit → AS → Prop} (h : AWP P w0 X n c σ Q) (hq : ∀ e σ, Q e σ → Q' e σ) : AWP P w0 X n c σ Q' :=
  fun β a w hs => Go.wpIn_mono (h β a w hs) fun e a w ⟨σ', β', h1, h2⟩ => ⟨σ', β', h1, hq _ _ h2⟩
theorem AWP.seq {x y : Code} (h : AWP P w0 X n x σ (thenQ (fun σ' => AWP P w0 X n y σ' Q) Q)) : AWP P w0 X n (.seq x y) σ Q :=
  fun β a w hs => wpIn_seq (Go.wpIn_mono (h β a w hs) fun e a w ⟨σ', β', h1, h2⟩ => by
    cases e with
    | normal => exact h2 β' a w h1
    | _ => exact ⟨σ', β', h1, h2⟩)
theorem AWP.skip (h : Q .normal σ) : AWP P w0 X n .skip σ Q := fun β a w hs => wpIn_skip ⟨σ, β, hs, h⟩
theorem AWP.label {l : Nat} (h : Q .normal σ) : AWP P w0 X n (.label l) σ Q := fun β a w hs => wpIn_label ⟨σ, β, hs, h⟩
theorem AWP.exit {id : Nat} (h : Q (.exit id) σ) : AWP P w0 X n (.exit id) σ Q := fun β a w hs => wpIn_exit ⟨σ, β, hs, h⟩
theorem AWP.ret (h : Q .ret σ) : AWP P w0 X n .ret σ Q := fun β a w hs => wpIn_ret ⟨σ, β, hs, h⟩
theorem AWP.cond {c : Operand} {x y : Code} {b : Bool} (hc : evO σ.F c = ⟨.bool, b⟩) (ht : b = true → AWP P w0 X n x σ Q) (hf : b = false → AWP P w0 X n y σ Q) : AWP P w0 X n (.cond c x y) σ Q := by
  intro β a w hs
  have h := hs.ops c
  rw [hc] at h
  exact wpIn_cond_split (RepV.bool h) (fun hb => ht hb β a w hs) (fun hb => hf hb β a w hs)
theorem AWP.block {id : Nat} {c : Code} (h : AWP P w0 X n c σ (blockQ id Q)) : AWP P w0 X n (.block id c) σ Q :=
  fun β a w hs => wpIn_block (Go.wpIn_mono (h β a w hs) fun e a w ⟨σ', β', h1, h2⟩ => by
    cases e with
    | exit j =>
      simp only [blockQ, cond_eq_ite, Nat.beq_eq] at h2
      simp only [Exit.inBlock]
      split
      · rename_i hj; rw [if_pos hj] at h2; exact ⟨σ', β', h1, h2⟩
      · rename_i hj; rw [if_neg hj] at h2; exact ⟨σ', β', h1, h2⟩
    | _ => exact ⟨σ', β', h1, h2⟩)
theorem AWP.region (hX : X.Ok w0) (hK : KnOk P X.G K) {id : Nat} {ops : Array Oper} {r : List Prop × AS} (hs : aSeq K n ops ops.toList σ = some r) (hp : allP r.1) (hq : Q .normal r.2) (hd : noDefer ops.toList = true := by rfl) : AWP P w0 X n (.region id ops false) σ Q :=
  fun _ _ _ h => region_wpR hK hX h hd hs hp fun β' _ _ h' => ⟨r.2, β', h', hq⟩
theorem AWP.draw (hm : P.follows .mixedOrders = true) (hX : X.Ok w0) (hK : KnOk P X.G K) {id : Nat} {ops : Array Oper} (m : Nat) (hB : headB ops m = true) {r1 r2 : List Prop × AS} (h1 : aHead K n ops (ops.toList.take m) σ = some r1) (h2 : aSeq K n ops (ops.toList.drop m) r1.2 = some r2)
    (hp1 : allP r1.1) (hp2 : allP r2.1) (hq : Q .normal r2.2) (hd : noDefer ops.toList = true := by rfl) : AWP P w0 X n (.region id ops true) σ Q :=
  fun _ _ _ h => draw_wpR hm hK hX h hd hB h1 h2 hp1 hp2 fun β' _ _ h' => ⟨r2.2, β', h', hq⟩
theorem AWP.drawM (hm : P.follows .mixedOrders = true) (hX : X.Ok w0) (hK : KnOk P X.G K) {id : Nat} {ops : Array Oper} (m : Nat) (hB : headB ops m = true) {r1 r2 : List Prop × AS} (h1 : mHead K n ops m (ops.toList.take m) σ = some r1) (h2 : aSeq K n ops (ops.toList.drop m) r1.2 = some r2)
    (hp1 : allP r1.1) (hp2 : allP r2.1) (hq : Q .normal r2.2) (hd : noDefer ops.toList = true := by rfl) : AWP P w0 X n (.region id ops true) σ Q :=
  fun _ _ _ h => mark_wpR hm hK hX h hd hB h1 h2 hp1 hp2 fun β' _ _ h' => ⟨r2.2, β', h', hq⟩
theorem AWP.drawN (hm : P.follows .mixedOrders = true) (hX : X.Ok w0) (hK : KnOk P X.G K) {id : Nat} {ops : Array Oper} (m : Nat) (hB : headN ops m = true) {rs : List NOp} (h1 : nHead K n ops σ.E (ops.toList.take m) σ.F [] = some rs)
    {r2 : List Prop × AS} (h2 : aSeq K n ops (ops.toList.drop m) (fins ⟨junks (ops.toList.take m) σ.F, σ.E, σ.nx⟩ rs) = some r2) (hp1 : allP (condsOf rs)) (hp2 : allP r2.1) (hq : Q .normal r2.2) (hd : noDefer ops.toList = true := by rfl) : AWP P w0 X n (.region id ops true) σ Q :=
  fun _ _ _ h => new_wpR hm hK hX h hd hB h1 h2 hp1 hp2 fun β' _ _ h' => ⟨r2.2, β', h', hq⟩
theorem AWP.weaken {c : Code} {F' : Frame} (hF : Sub σ.F F') (h : AWP P w0 X n c { σ with F := F' } Q) : AWP P w0 X n c σ Q :=
  fun β a w hs => h β a w (hs.weaken hF.get)
/-- σ' knows no more than σ -/
def SubE (E : Owns) : List (Nat × Option OObj) → Prop
  | [] => True
  | (i, some o) :: r => Owns.get E i = some o ∧ SubE E r
  | (_, none) :: r => SubE E r
theorem SubE.get {E E' : Owns} (h : SubE E E') : ∀ i o, Owns.get E' i = some o → Owns.get E i = some o := by
  induction E' with
  | nil => intro i o h; cases h
  | cons p r ih =>
    obtain ⟨j, q⟩ := p
    intro i o hi
    rw [Owns.get_cons] at hi
    cases q with
    | none =>
      by_cases hj : j = i
      · rw [if_pos hj] at hi; cases hi
      · rw [if_neg hj] at hi; exact ih h i o hi
    | some q =>
      by_cases hj : j = i
      · rw [if_pos hj] at hi; cases hi; exact hj ▸ h.1
      · rw [if_neg hj] at hi; exact ih h.2 i o hi
def bndB (k : Nat) : List (Nat × V) → Bool
  | [] => true
  | (_, v) :: r => Nat.ble v.bound k && bndB k r
def bndV (k : Nat) : List V → Bool
  | [] => true
  | v :: r => Nat.ble v.bound k && bndV k r
theorem bndV_get {k : Nat} {vs : List V} (h : bndV k vs = true) : ∀ v, v ∈ vs → v.bound ≤ k := by
  induction vs with
  | nil => intro v hv; cases hv
  | cons a r ih =>
    simp only [bndV, Bool.and_eq_true, Nat.ble_eq] at h
    intro v hv
    rcases List.mem_cons.1 hv with rfl | hv
    · exact h.1
    · exact ih h.2 v hv
def bndE (k : Nat) : List (Nat × Option OObj) → Bool
  | [] => true
  | (i, some (.hbox vs)) :: r => Nat.blt i k && bndV k vs && bndE k r
  | (i, _) :: r => Nat.blt i k && bndE k r
theorem bndB_get {k : Nat} {F : Frame} (h : bndB k F = true) (s : Nat) : (Frame.get F s).bound ≤ k := by
  induction F with
  | nil => exact Nat.zero_le _
  | cons p r ih =>
    obtain ⟨d, v⟩ := p
    simp only [bndB, Bool.and_eq_true, Nat.ble_eq] at h
    rw [Frame.get_cons]
    by_cases hs : d = s
    · rw [if_pos hs]; exact h.1
    · rw [if_neg hs]; exact ih h.2
theorem bndE_cons {k j : Nat} {q : Option OObj} {r : Owns} (h : bndE k ((j, q) :: r) = true) : j < k ∧ (∀ o, q = some o → o.under k) ∧ bndE k r = true := by
  cases q with
  | none =>
    simp only [bndE, Bool.and_eq_true] at h
    exact ⟨by simpa using h.1, (fun _ e => by cases e), h.2⟩
  | some q =>
    cases q with
    | hbox vs =>
      simp only [bndE, Bool.and_eq_true] at h
      refine ⟨by simpa using h.1.1, fun o e => ?_, h.2⟩
      cases e
      intro ws e
      cases e
      exact bndV_get h.1.2
    | _ =>
      simp only [bndE, Bool.and_eq_true] at h
      refine ⟨by simpa using h.1, fun o e => ?_, h.2⟩
      cases e
      intro ws e
      cases e
theorem bndE_both {k : Nat} {E : Owns} (h : bndE k E = true) {i : Nat} {o : OObj} (hi : Owns.get E i = some o) : i < k ∧ o.under k := by
  induction E with
  | nil => cases hi
  | cons p r ih =>
    obtain ⟨j, q⟩ := p
    obtain ⟨h1, h2, h3⟩ := bndE_cons h
    rw [Owns.get_cons] at hi
    by_cases hj : j = i
    · rw [if_pos hj] at hi; exact ⟨hj ▸ h1, h2 o hi⟩
    · rw [if_neg hj] at hi; exact ih h3 hi
theorem bndE_get {k : Nat} {E : Owns} (h : bndE k E = true) {i : Nat} {o : OObj} (hi : Owns.get E i = some o) : i < k := (bndE_both h hi).1
structure Fit (σ σ' : AS) : Prop where
  f : Sub σ.F σ'.F
  e : SubE σ.E σ'.E
  bf : bndB σ'.nx σ'.F = true
  be : bndE σ'.nx σ'.E = true
theorem Sim.fit {β : Nat → Value} {a : Act} {w : World} (h : Sim w0 X n σ β a w) {σ' : AS} (hf : Fit σ σ') (hnx : X.K ≤ σ'.nx) : Sim w0 X n σ' β a w := by
  have hk : Keeps w w (OSet X σ.E β) (OSet X σ'.E β) := ⟨Nat.le_refl _, fun _ _ _ => rfl, fun g _ hg => by
    rcases hg with hg | ⟨j, oj, h1, h2⟩
    · exact .inl hg
    · exact .inr ⟨j, oj, hf.e.get j oj h1, h2⟩⟩
  refine ⟨h.sz, h.df, h.bel, fun s => ?_, fun i o ho => (h.own i o (hf.e.get i o ho)).keep hk fun _ _ => rfl, fun i o g ho => h.new i o g (hf.e.get i o ho), fun i j oi oj hi hj => h.inj i j oi oj (hf.e.get i oi hi) (hf.e.get j oj hj), fun i o ho => bndE_get hf.be ho, ⟨hnx, fun i hi => ⟨(h.fix.2 i hi).1, fun o ho => (h.fix.2 i hi).2 o (hf.e.get i o ho)⟩⟩, fun s => bndB_get hf.bf s, fun i o ho => (bndE_both hf.be ho).2⟩
  rcases hf.f.get s with e | e
  · rw [e]; exact RepV.keep hk _ _ _ (h.fr s)
  · rw [e]; trivial
theorem AWP.fit {c : Code} {σ' : AS} (hf : Fit σ σ') (h : AWP P w0 X n c σ' Q) (hk : X.K ≤ σ'.nx := by exact Nat.le_of_ble_eq_true rfl) : AWP P w0 X n c σ Q :=
  fun β a w hs => h β a w (hs.fit hf hk)
/-- a loop: a family of states, a measure -/
theorem AWP.loop {c : Code} {ι : Type} (G : ι → AS) (J : ι → Prop) (m : ι → Nat) (i0 : ι) (hJ : J i0) (h0 : Fit σ (G i0))
    (round : ∀ i, J i → AWP P w0 X n c (G i) (thenQ (fun σ' => ∃ i', J i' ∧ m i' < m i ∧ Fit σ' (G i')) Q)) (hk : ∀ i, X.K ≤ (G i).nx := by exact fun _ => Nat.le_of_ble_eq_true rfl) : AWP P w0 X n (.loop c) σ Q := by
  intro β a w hs
  exact wpIn_family (fun i a w => J i ∧ ∃ β, Sim w0 X n (G i) β a w) m i0 ⟨hJ, β, hs.fit h0 (hk _)⟩ fun i a w ⟨hj, β, h1⟩ => Go.wpIn_mono (round i hj β a w h1) fun e a' w' ⟨σ', β', h2, h3⟩ => by
    cases e with
    | normal => obtain ⟨i', hj', hlt, hf⟩ := h3; exact ⟨i', hlt, hj', β', h2.fit hf (hk _)⟩
    | _ => exact ⟨σ', β', h2, h3⟩
/-- what a slot tells of its length -/
theorem AWP.len {c : Code} (s : Nat) {t : Ty} {xs : List t.T} (hs : Frame.get σ.F s = ⟨.slice t, xs⟩) (h : xs.length ≤ maxLen → AWP P w0 X n c σ Q) : AWP P w0 X n c σ Q := by
  intro β a w hsim
  have h1 := hsim.fr s
  rw [hs] at h1
  have h1 : RepV w (OSet X σ.E β) β (.slice t) xs _ := h1
  obtain ⟨A, k, _, h2, h3⟩ := (RepV.slice h1).nlen
  exact h (by omega) β a w hsim
theorem AWP.slen {c : Code} (s : Nat) {l : List UInt8} (hs : Frame.get σ.F s = ⟨.str, l⟩) (h : l.length ≤ maxLen → AWP P w0 X n c σ Q) : AWP P w0 X n c σ Q := by
  intro β a w hsim
  have h1 := hsim.fr s
  rw [hs] at h1
  exact h (RepV.str h1).2 β a w hsim

/-- a slice of the call's own is given away -/
theorem AWP.frz (hX : X.Ok w0) (s : Nat) {c : Code} (h : AWP P w0 X n c (Go.Proofs.YtbbeldmcdjjnbaaDoor.frz σ (.tmp s)) Q) : AWP P w0 X n c σ Q :=
  fun β a w hs => h β a w (hs.frz hX (.tmp s))
theorem AWP.alen {c : Code} (s : Nat) {k : Nat} {t : Ty} {xs : List t.T} (hs : Frame.get σ.F s = ⟨.arr k t, xs⟩) (h : xs.length = k → AWP P w0 X n c σ Q) : AWP P w0 X n c σ Q := by
  intro β a w hsim
  have h1 := hsim.fr s
  rw [hs] at h1
  have h1 : RepD w (OSet X σ.E β) (.arr k t) xs _ := h1
  obtain ⟨cs, _, h2⟩ := (RepD.agg rfl).1 h1
  exact h h2.1 β a w hsim

/-- what a variable tells of its length -/
theorem AWP.blen {c : Code} (i : Nat) {k : Nat} {t : Ty} {xs : List t.T} (hi : Owns.get σ.E i = some (.box (.arr k t) xs)) (h : xs.length = k → AWP P w0 X n c σ Q) : AWP P w0 X n c σ Q := by
  intro β a w hsim
  obtain ⟨g, cs, ty, _, _, _, h4⟩ := hsim.own i _ hi
  exact h h4.1 β a w hsim
/-- a nil slice is an empty slice of the call's own -/
theorem AWP.nilBuf (hX : X.Ok w0) (s : Nat) (te : TypeId) (τ : Ty) {c : Code} (hs : Frame.get σ.F s = ⟨.lit, .slice none 0 0⟩) (hn : Nat.blt s n = true) (hτ : Nat.blt 0 τ.size = true)
    (h : AWP P w0 X n c ⟨(s, ⟨.obuf τ, σ.nx⟩) :: σ.F, (σ.nx, some (.buf te τ [])) :: σ.E, σ.nx + 1⟩ Q) : AWP P w0 X n c σ Q := by
  intro β a w hsim
  have h1 := hsim.fr s
  rw [hs] at h1
  have h1 : a.tmps.getD s undef = .slice none 0 0 := h1
  have hn' : s < n := by simpa using hn
  obtain ⟨β', h2⟩ := hsim.make hX (Below.refl _ w) (bv := .slice none 0 0) (o := .buf te τ []) (v := ⟨.obuf τ, σ.nx⟩) (u := .slice none 0 0) (d := s)
    (fun O _ _ => ⟨[], rfl, ⟨by simp, .inl ⟨rfl, rfl⟩⟩, by simpa using hτ⟩) (fun g hg => by cases hg) (fun O β' hβ => hβ.symm) (Nat.le_refl _) hn'
  have h3 : a.put (some s) (.slice none 0 0) = a := by
    obtain ⟨tmps, defers⟩ := a
    simp only [Act.put]
    congr 1
    have h4 : s < tmps.size := by have := hsim.sz; simp only at this; omega
    apply Array.ext
    · simp
    · intro i hi1 hi2
      by_cases e : s = i
      · subst e
        have h5 : tmps[s] = .slice none 0 0 := by simpa [Array.getD, h4] using h1
        rw [h5]
        simp
      · rw [Array.getElem_setIfInBounds, if_neg e]
  rw [h3] at h2
  exact h β' a w h2

/-! ### contracts out of walks -/
def initF : (ts : List Ty) → Args ts → Nat → List (Nat × V)
  | [], _, _ => []
  | t :: r, x, s => (s, ⟨t, x.1⟩) :: initF r x.2 (s + 1)
def initS (ts : List Ty) (xs : Args ts) : AS := ⟨initF ts xs 0, [], 0⟩
/-- what a result variable holds -/
def rOf (T : Tbl) (σ : AS) : ResultVar → Option (List Prop × V)
  | .tmp s => some ([], Frame.get σ.F s)
  | .cell s t => loadV T σ.E t (Frame.get σ.F s)
/-- the results, one or more -/
def resOf (T : Tbl) (σ : AS) : List ResultVar → (t : Ty) → Option (List Prop × t.T)
  | [], .unit => some ([], ())
  | r :: rs, .tup a b => match rOf T σ r with
    | some (p, v) => match coe a (dat σ.E v), resOf T σ rs b with
      | some x, some (q, y) => some (p ++ q, (x, y))
      | _, _ => none
    | none => none
  | _, _ => none
def Ty.tupData : Ty → Bool
  | .tup a b => a.data && b.tupData
  | .unit => true
  | _ => false
/-- what a walk must leave -/
def Done (T : Tbl) (rs : List ResultVar) (σ : AS) (own : Option TypeId) (t : Ty) (x : t.T) : Prop :=
  match own, rs with
  | none, [r] => ∃ p v, rOf T σ r = some (p, v) ∧ allP p ∧ t.argOk = true ∧ coe t (dat σ.E v) = some x
  | none, rs => rs.length ≠ 1 ∧ t.tupData = true ∧ ∃ p, resOf T σ rs t = some (p, x) ∧ allP p
  | some te, [.tmp s] => ∃ (τ τ' : Ty) (i : Nat) (xs : List τ.T), Frame.get σ.F s = ⟨.obuf τ', i⟩ ∧ Owns.get σ.E i = some (.buf te τ xs) ∧ (⟨t, x⟩ : V) = ⟨.slice τ, xs⟩
  | _, _ => False
theorem initF_rep {w : World} {O : Nat → Prop} {β : Nat → Value} : ∀ (ts : List Ty) (xs : Args ts) (vs : List Value) (pre post : List Value), allData ts = true → RepA w O ts xs vs → ∀ s, RepV w O β (Frame.get (initF ts xs pre.length) s).t (Frame.get (initF ts xs pre.length) s).x ((pre ++ vs ++ post).toArray.getD s undef)
  | [], _, _, _, _, _, _, _ => trivial
  | t :: ts, xs, vs, pre, post, hd, h, s => by
    obtain ⟨v, r, rfl, h1, h2⟩ := h
    simp only [allData, Bool.and_eq_true] at hd
    simp only [initF]
    rw [Frame.get_cons]
    by_cases hs : pre.length = s
    · rw [if_pos hs]
      subst hs
      have : (pre ++ v :: r ++ post).toArray.getD pre.length undef = v := by simp [Array.getD]
      rw [this]
      exact repV_beta hd.1 h1
    · rw [if_neg hs]
      have := initF_rep (β := β) ts xs.2 r (pre ++ [v]) post hd.2 h2 s
      rw [show (pre ++ [v]).length = pre.length + 1 by simp] at this
      simpa using this
theorem bnd_arg {t : Ty} (ht : t.argOk = true) {x : t.T} : bnd t x = 0 := by
  cases t <;> first | rfl | (cases ht; done)
theorem resRel_arg {w : World} {O : Nat → Prop} {β : Nat → Value} {B : Nat} {t : Ty} (ht : t.argOk = true) {x : t.T} {v : Value} (h : RepV w O β t x v) : ResRel w O B none t x v := by
  cases t <;> first | exact h | exact fun β' => repV_beta ht h | (cases ht; done)
theorem initF_bound : ∀ (ts : List Ty) (xs : Args ts) (k s : Nat), allData ts = true → (Frame.get (initF ts xs k) s).bound = 0
  | [], _, _, _, _ => rfl
  | t :: ts, xs, k, s, hd => by
    simp only [allData, Bool.and_eq_true] at hd
    simp only [initF, Frame.get_cons]
    by_cases hs : k = s
    · rw [if_pos hs]; exact bnd_arg hd.1
    · rw [if_neg hs]; exact initF_bound ts xs.2 (k + 1) s hd.2
/-- what a walk's end knows of slots and of what the call owns -/
structure Seen (w0 : World) (X : Ownr) (σ : AS) (β : Nat → Value) (a : Act) (w : World) : Prop where
  fr : ∀ s, RepV w (OSet X σ.E β) β (Frame.get σ.F s).t (Frame.get σ.F s).x (a.tmps.getD s undef)
  own : ∀ i o, Owns.get σ.E i = some o → OwnRep w (OSet X σ.E β) β 0 (β i) o
  new : ∀ i o g, Owns.get σ.E i = some o → blockOf (β i) = some g → w0.heap.size ≤ g ∨ X.R g
theorem Sim.seen {β : Nat → Value} {a : Act} {w : World} (h : Sim w0 X n σ β a w) : Seen w0 X σ β a w := ⟨h.fr, h.own, h.new⟩
theorem datX_rep {β : Nat → Value} {a : Act} {w : World} (h : Seen w0 X σ β a w) (hX : X.Ok w0) {v : V} {u : Value} (hr : RepV w (OSet X σ.E β) β v.t v.x u) : RepV w X.X β (dat σ.E v).t (dat σ.E v).x u := by
  have hk : Keeps w w (OSet X σ.E β) X.X := ⟨Nat.le_refl _, fun _ _ _ => rfl, fun _ _ h => .inl h⟩
  obtain ⟨t, x⟩ := v
  cases t with
  | obuf t =>
    have h' : u = β x := hr
    subst h'
    cases he : Owns.get σ.E x with
    | none =>
      have e : dat σ.E ⟨.obuf t, x⟩ = ⟨.junk, ()⟩ := by simp only [dat, he]
      rw [e]; trivial
    | some o =>
      cases o with
      | box t' x' =>
        have e : dat σ.E ⟨.obuf t, x⟩ = ⟨.junk, ()⟩ := by simp only [dat, he]
        rw [e]; trivial
      | hbox vs =>
        have e : dat σ.E ⟨.obuf t, x⟩ = ⟨.junk, ()⟩ := by simp only [dat, he]
        rw [e]; trivial
      | buf te t' xs =>
        have e : dat σ.E ⟨.obuf t, x⟩ = ⟨.slice t', xs⟩ := by simp only [dat, he]
        rw [e]
        exact (h.own x _ he).view (fun _ _ h => .inl h) fun g hg hxg => by
          have h3 := hX.1 g hxg
          rcases h.new x _ g he hg with h4 | h4
          · omega
          · exact h3.2 h4
  | _ => exact RepV.keep hk _ _ _ hr

theorem loadVar_of {t : TypeId} {A : Addr} {u : Value} {w : World} (h : (Instr.loadAt t (.pointer (some A))).run P w = .ok u w) : (loadVar t A).run P w = .ok u w := by
  simpa [Instr.loadAt, Instr.sureAddr] using h
theorem resVar_run (hK : KnOk P X.G K) (hX : X.Ok w0) {β : Nat → Value} {a : Act} {w : World} (h : Seen w0 X σ β a w) {r : ResultVar} {p : List Prop} {v : V} (hr : rOf K.T σ r = some (p, v)) (hp : allP p) :
    ∃ u, (match r with | .tmp t => (pure (a.tmps.getD t undef) : Sem Value) | .cell s t => do loadVar t (← asAddr (a.tmps.getD s undef))).run P w = .ok u w ∧ RepV w (OSet X σ.E β) β v.t v.x u := by
  cases r with
  | tmp s =>
    cases hr
    exact ⟨_, rfl, h.fr s⟩
  | cell s t =>
    have hf := h.fr s
    have hr' : loadV K.T σ.E t (Frame.get σ.F s) = some (p, v) := hr
    obtain ⟨u, h1, h3⟩ := loadV_run (P := P) hK.t h.own hr' hp hf
    have hptr : ∃ A, a.tmps.getD s undef = .pointer (some A) := by
      revert hf hr'
      generalize Frame.get σ.F s = fv
      obtain ⟨ft, fx⟩ := fv
      intro hf hr'
      cases ft <;> simp only [loadV, reduceCtorEq] at hr'
      · obtain ⟨g, off, cs, e, _⟩ := hf; exact ⟨_, e⟩
      · obtain ⟨g, _, e⟩ := hf; exact ⟨_, e⟩
      · obtain ⟨g, _, e⟩ := hf; exact ⟨_, e⟩
      · obtain ⟨cs, e, _⟩ := hf; exact ⟨_, e⟩
    obtain ⟨A, hA⟩ := hptr
    rw [hA] at h1
    refine ⟨u, ?_, h3⟩
    simp only [hA, asAddr, Sem.run_bind, Sem.run_pure, Result.andThen_ok]
    exact loadVar_of h1

/-- one result variable's value -/
def resM (tmps : Array Value) : ResultVar → Sem Value
  | .tmp t => pure (tmps.getD t undef)
  | .cell s t => do loadVar t (← asAddr (tmps.getD s undef))
theorem results_eq (fn : Func) (tmps : Array Value) : results fn tmps = (do let vs ← fn.results.mapM (resM tmps); pure (if h : vs.size = 1 then vs[0] else .tuple vs) : Sem Value) := by
  unfold results
  congr 1
theorem resOf_run (hK : KnOk P X.G K) (hX : X.Ok w0) {β : Nat → Value} {a : Act} {w : World} (h : Seen w0 X σ β a w) : ∀ (rs : List ResultVar) (t : Ty) (p : List Prop) (x : t.T), t.tupData = true → resOf K.T σ rs t = some (p, x) → allP p →
    ∃ us, (rs.mapM (resM a.tmps)).run P w = .ok us w ∧ us.length = rs.length ∧ RepTup w X.X t x us
  | [], .unit, p, x, _, hr, _ => ⟨[], by simp, rfl, rfl⟩
  | r :: rs, .tup c b, p, x, hd, hr, hp => by
    simp only [resOf] at hr
    simp only [Ty.tupData, Bool.and_eq_true] at hd
    split at hr
    · rename_i p1 v hv
      split at hr
      · rename_i y q z hy hz
        cases hr
        rw [allP_append] at hp
        obtain ⟨u, h1, h2⟩ := resVar_run hK hX h hv hp.1
        obtain ⟨us, h3, h4, h5⟩ := resOf_run hK hX h rs b q z hd.2 hz hp.2
        have h1' : (resM a.tmps r).run P w = .ok u w := by cases r <;> exact h1
        exact ⟨u :: us, by simp [List.mapM_cons, h1', h3], by simp [h4], u, us, rfl, coe_rep hd.1 hy (datX_rep h hX h2), h5⟩
      · cases hr
    · cases hr
  | [], .tup _ _, _, _, _, hr, _ => by cases hr
  | _ :: _, .unit, _, _, _, hr, _ => by cases hr
  | _, .bool, _, _, hd, _, _ => by cases hd
  | _, .int _, _, _, hd, _, _ => by cases hd
  | _, .str, _, _, hd, _, _ => by cases hd
  | _, .pair _ _, _, _, hd, _, _ => by cases hd
  | _, .arr _ _, _, _, hd, _, _ => by cases hd
  | _, .slice _, _, _, hd, _, _ => by cases hd
  | _, .junk, _, _, hd, _, _ => by cases hd
  | _, .lit, _, _, hd, _, _ => by cases hd
  | _, .vptr _, _, _, hd, _, _ => by cases hd
  | _, .cptr _ _ _, _, _, hd, _, _ => by cases hd
  | _, .optr _, _, _, hd, _, _ => by cases hd
  | _, .obuf _, _, _, hd, _, _ => by cases hd
  | _, .cond _, _, _, hd, _, _ => by cases hd
theorem resRel_data {w : World} {O : Nat → Prop} {B : Nat} : ∀ (t : Ty) (x : t.T) (v : Value), RepD w O t x v → ResRel w O B none t x v := by
  intro t
  cases t <;> intro x v h <;> first | exact h | exact fun β => repD_repV h
theorem resRel_tup {w : World} {O : Nat → Prop} {B : Nat} : ∀ (t : Ty) (x : t.T) (us : List Value), t.tupData = true → us.length ≠ 1 → RepTup w O t x us → (t = .unit → False) → ResRel w O B none t x (.tuple us.toArray) := by
  intro t
  cases t <;> intro x us hd hl h hu <;> first
    | exact fun β => ⟨us, rfl, h⟩
    | (cases hd; done)
    | exact (hu rfl).elim
theorem OwnRep.raise {w : World} {O : Nat → Prop} {β : Nat → Value} {B B' : Nat} {bv : Value} {o : OObj} (h : OwnRep w O β B bv o) (hB : ∀ g, blockOf bv = some g → B' ≤ g) : OwnRep w O β B' bv o := by
  cases o with
  | box t x =>
    obtain ⟨g, cs, ty, e, h1, h2⟩ := h
    exact ⟨g, cs, ty, e, hB g (by rw [e]; rfl), h2⟩
  | buf te t xs =>
    obtain ⟨cs, h1, h2, h3⟩ := h
    refine ⟨cs, h1, ⟨h2.1, ?_⟩, h3⟩
    rcases h2.2 with h4 | ⟨g, cap, cur, e, h5, h6⟩
    · exact .inl h4
    · exact .inr ⟨g, cap, cur, e, hB g (by rw [e]; rfl), h6⟩
  | hbox vs =>
    obtain ⟨g, cs, ty, e, h1, h2⟩ := h
    exact ⟨g, cs, ty, e, hB g (by rw [e]; rfl), h2⟩
theorem done_res (hK : KnOk P X.G K) (hX : X.Ok w0) {β : Nat → Value} {a : Act} {w : World} (h : Seen w0 X σ β a w) {fn : Func} {own : Option TypeId} {t : Ty} {x : t.T} (hd : Done K.T fn.results.toList σ own t x) (hR : own = none ∨ ∀ g, ¬ X.R g) :
    ∃ v, (results fn a.tmps).run P w = .ok v w ∧ (t = .unit ∨ ResRel w X.X w0.heap.size own t x v) := by
  rw [results_eq]
  have hmap : ∀ us, (fn.results.toList.mapM (resM a.tmps)).run P w = .ok us w → (fn.results.mapM (resM a.tmps)).run P w = .ok us.toArray w := fun us hus => by
    rw [Array.mapM_eq_mapM_toList]
    simp [hus]
  unfold Done at hd
  split at hd
  · rename_i r hr
    obtain ⟨p, v, h1, h2, h3, h4⟩ := hd
    obtain ⟨u, h5, h6⟩ := resVar_run hK hX h h1 h2
    have h5' : (resM a.tmps r).run P w = .ok u w := by cases r <;> exact h5
    have hm := hmap [u] (by rw [hr]; simp [h5'])
    refine ⟨u, by simp [hm], .inr (resRel_arg h3 (coe_repV h4 (datX_rep h hX h6)))⟩
  · obtain ⟨h1, h2, p, h3, h4⟩ := hd
    obtain ⟨us, h5, h6, h7⟩ := resOf_run hK hX h _ _ _ _ h2 h3 h4
    have hm := hmap us h5
    have hl : us.length ≠ 1 := by rw [h6]; exact h1
    refine ⟨.tuple us.toArray, by simp [hm, hl], ?_⟩
    by_cases hnu : t = .unit
    · exact .inl hnu
    · exact .inr (resRel_tup _ _ _ h2 hl h7 hnu)
  · rename_i te s hr
    obtain ⟨τ, τ', i, xs, h1, h2, h3⟩ := hd
    cases h3
    have hf := h.fr s
    rw [h1] at hf
    have hu : a.tmps.getD s undef = β i := hf
    have hm := hmap [a.tmps.getD s undef] (by rw [hr]; simp [resM])
    refine ⟨β i, by rw [Sem.run_bind, hm, ← hu]; simp, .inr ?_⟩
    show OwnRep w (fun g => X g ∨ blockOf (β i) = some g) β w0.heap.size (β i) (.buf te τ xs)
    refine OwnRep.keep (OwnRep.raise (h.own i _ h2) fun g hg => ?_) ⟨Nat.le_refl _, fun _ _ _ => rfl, fun g _ hg => hg.imp id fun hg => ⟨i, _, h2, hg⟩⟩ fun _ _ => rfl
    rcases h.new i _ g h2 hg with h4 | h4
    · exact h4
    · rcases hR with h5 | h5
      · cases h5
      · exact (h5 g h4).elim
  · exact hd.elim
theorem repA_len {w : World} {O : Nat → Prop} : ∀ (ts : List Ty) (xs : Args ts) (vs : List Value), RepA w O ts xs vs → vs.length = ts.length
  | [], _, _, h => by cases h; rfl
  | t :: ts, xs, vs, h => by obtain ⟨v, r, rfl, _, h2⟩ := h; simp [repA_len ts xs.2 r h2]
/-- a contract out of a walk -/
theorem ctr_of_awp {G : World → Prop} (hK : KnOk P G K) {f : FuncId} {fn : Func} {c : Code} {ctr : Ctr} (hf : P.funcs[f]? = some fn) (hb : fn.body = some c) (hn : fn.ntmps = n)
    (hen : ∀ (as : Array Value) (w : World), (callFunc f as).run P w = .ok (.enter f as) w) (hd : allData ctr.args = true) (hlen : ctr.args.length ≤ n) (hnu : ctr.res = .unit → False)
    (h : ∀ (w0 : World) (X : Nat → Prop), (Ownr.plain G X).Ok w0 → ∀ xs : Args ctr.args, allP (ctr.pre xs) → AWP P w0 (Ownr.plain G X) n c (initS ctr.args xs) (fun e σ => (e = .normal ∨ e = .ret) ∧ Done K.T fn.results.toList σ ctr.own ctr.res (ctr.out xs))) : CtrOk P G f ctr := by
  refine ⟨hen, fun w O xs vs hO hrep hp hG => calls_of_wp hf hb ?_⟩
  have hvl := repA_len _ _ _ hrep
  let X : Ownr := Ownr.plain G O
  have hXR : ∀ g, ¬ X.R g := Ownr.plain_noR _ _
  have hX : X.Ok w := ⟨fun g hg => ⟨hO g hg, hXR g⟩, fun g hg => (hXR g hg).elim, fun w' hk => hK.st w w' hG (hk.below hXR)⟩
  have hsim : Sim w X n (initS ctr.args xs) (fun _ => undef) { tmps := vs.toArray ++ Array.replicate (fn.ntmps - vs.toArray.size) undef, defers := [] } w := by
    have hE : OSet X (initS ctr.args xs).E (fun _ => undef) = O := by
      funext g
      apply propext
      constructor
      · rintro (h | ⟨i, o, h, _⟩)
        · exact h
        · cases h
      · exact fun h => .inl h
    refine ⟨by simp [hn, hvl]; omega, rfl, Kept.refl _ _, fun s => ?_, fun i o h => (by cases h), fun i o g h => (by cases h), fun i j oi oj h => (by cases h), fun i o h => (by cases h), ⟨Nat.zero_le _, fun i h => (by cases h)⟩, fun s => ?_, fun i o h => (by cases h)⟩
    · rw [hE]
      have := initF_rep (β := fun _ => undef) ctr.args xs vs [] (List.replicate (fn.ntmps - vs.length) undef) hd hrep s
      simp only [List.nil_append, List.length_nil] at this
      have e : (vs.toArray ++ Array.replicate (fn.ntmps - vs.toArray.size) undef) = (vs ++ List.replicate (fn.ntmps - vs.length) undef).toArray := by simp
      show RepV w O _ _ _ ((vs.toArray ++ Array.replicate (fn.ntmps - vs.toArray.size) undef).getD s undef)
      rw [e]
      exact this
    · show (Frame.get (initF ctr.args xs 0) s).bound ≤ 0
      rw [initF_bound _ _ _ _ hd]
      exact Nat.le_refl _
  refine wp_mono (wpIn_wide.1 (h w O hX xs hp _ _ _ hsim)) fun e a' w' ⟨σ', β', h1, h2, h3⟩ => ?_
  obtain ⟨v, h4, h5⟩ := done_res (X := X) hK hX h1.seen h3 (.inr hXR)
  have h5 := h5.resolve_left hnu
  have hb := h1.bel.below hXR
  rcases h2 with rfl | rfl
  · exact ⟨h1.df, v, h4, v, rfl, hb, h5⟩
  · exact ⟨h1.df, v, h4, v, rfl, hb, h5⟩
/-! ### a package-level variable is read -/
theorem AWP.loadG (hX : X.Ok w0) (hK : KnOk P X.G K) {id : Nat} {ops : Array Oper} {o : Oper} {rest : List Oper} {t : TypeId} {g d : Nat} {τ : Ty} {x : τ.T} (cs : List Value) (hops : ops.toList = o :: rest) (ho : o.op = .load t (.global g)) (hgd : o.guard = none) (hdst : o.dst = some d) (hd : Nat.blt d n = true)
    (hτ : tis K.T t τ = true) (hfl : τ.flat = true) (hc : RepC w0 (fun _ => True) τ x cs) (hat : CellsAt w0 g 0 cs) (hg : g < w0.heap.size) (hgR : ¬ X.R g) {r : List Prop × AS} (hs : aSeq K n ops rest ⟨(d, ⟨τ, x⟩) :: σ.F, σ.E, σ.nx⟩ = some r) (hp : allP r.1) (hq : Q .normal r.2) (hnd : noDefer ops.toList = true := by rfl) : AWP P w0 X n (.region id ops false) σ Q := by
  intro β a w hsim
  have hd' : d < n := by simpa using hd
  have hlist : wpList P ops (fun e a' w' => e = .normal ∧ ∃ β', Sim w0 X n r.2 β' a' w') ops.toList a w := by
    rw [hops]
    have hrep : RepC w (OSet X σ.E β) τ x cs := repC_flat τ hfl _ _ hc
    have hat' : CellsAt w g 0 cs := fun j u hu => by
      have h1 := hat j u hu
      unfold World.cell? at *
      rw [hsim.bel.block g hg hgR]
      exact h1
    obtain ⟨u, h6, h7⟩ := (hK.t.is hτ).loadAt hrep hat'
    have h8 : RepV w (OSet X σ.E β) β τ x u := (repV_data (hK.t.is hτ).data).2 h7
    have key : o.wp P a w (fun a' w' => wpList P ops (fun e a' w' => e = .normal ∧ ∃ β', Sim w0 X n r.2 β' a' w') rest a' w') (fun e a' w' => e = .normal ∧ ∃ β', Sim w0 X n r.2 β' a' w') := by
      refine wp_run (u := u) (w' := w) ?_ ?_
      · unfold execOp
        simp only [ho]
        exact run_v h6
      · rw [hdst]
        have hsim' := hsim.put (Below.refl _ _) (v := ⟨τ, x⟩) h8 (by rw [show V.bound ⟨τ, x⟩ = 0 from bnd_data _ _ (hK.t.is hτ).data]; exact Nat.zero_le _) hd'
        exact aSeq_wp hK hX rest hsim' hs hp fun β' a' w' h => ⟨rfl, β', h⟩
    show if Region.wanted o (yielded ops a.tmps) then _ else _
    simp only [Region.wanted, hgd, if_true]
    exact .inl key
  exact Go.wpIn_mono (wpIn_region_list (wpListIn_of_wpList not_lets _ hnd hlist)) fun e a w ⟨he, β', h⟩ => by subst he; exact ⟨_, β', h, hq⟩
/-! ### functions that write a variable which they were handed by its address -/
def initR (r : Ty) (x : r.T) (ts : List Ty) (xs : Args ts) : AS := ⟨(0, ⟨.optr r, ⟨0, r, .here⟩⟩) :: initF ts xs 1, [(0, some (.box r x))], 1⟩
theorem rctr_of_awp {G : World → Prop} (hK : KnOk P G K) {f : FuncId} {fn : Func} {c : Code} {ctr : RCtr} (hf : P.funcs[f]? = some fn) (hb : fn.body = some c) (hn : fn.ntmps = n)
    (hen : ∀ (as : Array Value) (w : World), (callFunc f as).run P w = .ok (.enter f as) w) (hd : allData ctr.args = true) (hlen : ctr.args.length + 1 ≤ n) (hst : ∀ w w' g, ctr.inv w g → G w → Kept (fun h => h = g) w w' → G w')
    (h : ∀ (w0 : World) (O : Nat → Prop) (g : Nat), (Ownr.one G O g).Ok w0 → ctr.inv w0 g → ∀ (x : ctr.self.T) (xs : Args ctr.args), allP (ctr.pre x xs) →
      AWP P w0 (Ownr.one G O g) n c (initR ctr.self x ctr.args xs) (fun e σ => (e = .normal ∨ e = .ret) ∧ Owns.get σ.E 0 = some (.box ctr.self (ctr.post x xs)) ∧ Done K.T fn.results.toList σ none ctr.res (ctr.out x xs))) : RCtrOk P G f ctr := by
  refine ⟨hen, fun w O g cs ty x xs vs hO hg hx hrep hp hinv hG => calls_of_wp hf hb ?_⟩
  have hvl := repA_len _ _ _ hrep
  have hgl := (Array.getElem?_eq_some_iff.1 hg).1
  let X : Ownr := Ownr.one G O g
  have hXR : ∀ h, X.R h ↔ h = g := Ownr.one_R _ _ _
  have hX : X.Ok w := ⟨fun h hh => ⟨(hO h hh).1, fun e => (hO h hh).2 ((hXR h).1 e)⟩, fun h e => by rw [(hXR h).1 e]; exact hgl, fun w' hk => hst w w' g hinv hG ⟨hk.os, hk.tape, hk.output, hk.size, fun k hkl hr => hk.block k hkl fun hr' => hr ((hXR k).1 hr')⟩⟩
  let β : Nat → Value := fun _ => .pointer (some ⟨g, 0, none⟩)
  have hE : OSet X (initR ctr.self x ctr.args xs).E β = fun h => O h ∨ h = g := by
    funext k
    apply propext
    constructor
    · rintro (h | ⟨i, o, _, h⟩)
      · exact .inl h
      · exact .inr (by simpa [β, blockOf] using h.symm)
    · rintro (h | h)
      · exact .inl h
      · exact .inr ⟨0, _, rfl, by rw [h]; rfl⟩
  have hget : ∀ i o, Owns.get (initR ctr.self x ctr.args xs).E i = some o → i = 0 ∧ o = .box ctr.self x := fun i o h => by
    rw [show (initR ctr.self x ctr.args xs).E = [(0, some (.box ctr.self x))] from rfl, Owns.get_cons] at h
    by_cases hi : 0 = i
    · rw [if_pos hi] at h; cases h; exact ⟨hi.symm, rfl⟩
    · rw [if_neg hi] at h; cases h
  have hsim : Sim w X n (initR ctr.self x ctr.args xs) β { tmps := (Value.pointer (some ⟨g, 0, none⟩) :: vs).toArray ++ Array.replicate (fn.ntmps - (Value.pointer (some ⟨g, 0, none⟩) :: vs).toArray.size) undef, defers := [] } w := by
    refine ⟨by simp [hn, hvl]; omega, rfl, Kept.refl _ _, fun s => ?_, fun i o h => ?_, fun i o k h hk => ?_, fun i j oi oj h h' hne => ?_, fun i o h => ?_, ⟨Nat.le_refl _, fun i hi => ⟨rfl, fun o ho => ?_⟩⟩, fun s => ?_, fun i o h => by rw [(hget i o h).2]; intro _ e; cases e⟩
    · rw [hE]
      have e : ((Value.pointer (some ⟨g, 0, none⟩) :: vs).toArray ++ Array.replicate (fn.ntmps - (Value.pointer (some ⟨g, 0, none⟩) :: vs).toArray.size) undef) = ([Value.pointer (some ⟨g, 0, none⟩)] ++ vs ++ List.replicate (fn.ntmps - (vs.length + 1)) undef).toArray := by simp
      show RepV w _ _ _ _ (((Value.pointer (some ⟨g, 0, none⟩) :: vs).toArray ++ Array.replicate (fn.ntmps - (Value.pointer (some ⟨g, 0, none⟩) :: vs).toArray.size) undef).getD s undef)
      rw [e]
      have := initF_rep (β := β) ctr.args xs vs [Value.pointer (some ⟨g, 0, none⟩)] (List.replicate (fn.ntmps - (vs.length + 1)) undef) hd hrep s
      have key : ∀ u : Value, RepV w (fun h => O h ∨ h = g) β (Frame.get ((0, ⟨.optr ctr.self, ⟨0, ctr.self, .here⟩⟩) :: initF ctr.args xs 1) s).t (Frame.get ((0, ⟨.optr ctr.self, ⟨0, ctr.self, .here⟩⟩) :: initF ctr.args xs 1) s).x u = RepV w (fun h => O h ∨ h = g) β (if 0 = s then (⟨.optr ctr.self, ⟨0, ctr.self, .here⟩⟩ : V) else Frame.get (initF ctr.args xs 1) s).t (if 0 = s then (⟨.optr ctr.self, ⟨0, ctr.self, .here⟩⟩ : V) else Frame.get (initF ctr.args xs 1) s).x u := fun u => by
        rw [← Frame.get_cons]
      refine (key _).mpr ?_
      by_cases hs : 0 = s
      · rw [if_pos hs]
        subst hs
        exact ⟨g, rfl, by simp [Array.getD, Path.off]⟩
      · rw [if_neg hs]
        exact this
    · obtain ⟨rfl, rfl⟩ := hget i o h
      exact ⟨g, cs, ty, rfl, Nat.zero_le _, hg, by rw [hE]; exact hx⟩
    · exact .inr ((hXR k).2 (by simpa [β, blockOf] using hk.symm))
    · have := (hget i oi h).1
      have := (hget j oj h').1
      omega
    · have := (hget i o h).1
      subst this
      exact Nat.lt_succ_self 0
    · rw [(hget i o ho).2]; rfl
    · show (Frame.get ((0, ⟨.optr ctr.self, ⟨0, ctr.self, .here⟩⟩) :: initF ctr.args xs 1) s).bound ≤ 1
      rw [Frame.get_cons]
      by_cases hs : 0 = s
      · rw [if_pos hs]; exact Nat.le_refl _
      · rw [if_neg hs, initF_bound _ _ _ _ hd]
        exact Nat.zero_le _
  refine wp_mono (wpIn_wide.1 (h w O g hX hinv x xs hp _ _ _ hsim)) fun e a' w' ⟨σ', β', h1, h2, h6, h3⟩ => ?_
  obtain ⟨v, h4, h5⟩ := done_res (X := X) hK hX h1.seen h3 (.inl rfl)
  have hbk : Kept (fun h => h = g) w w' := ⟨h1.bel.os, h1.bel.tape, h1.bel.output, h1.bel.size, fun k hk hr => h1.bel.block k hk fun hr' => hr ((hXR k).1 hr')⟩
  obtain ⟨g', cs', ty', hb1, _, hb3, hb4⟩ := h1.own 0 _ h6
  have hb5 := (h1.fix.2 0 (Nat.lt_succ_self 0)).1
  rw [hb1] at hb5
  have hgg : g' = g := by simpa [blockOf, X, Ownr.one] using hb5
  subst hgg
  have hb6 : RepC w' (fun h => O h ∨ h = g') ctr.self (ctr.post x xs) cs' := RepC.keep ⟨Nat.le_refl _, fun _ _ _ => rfl, fun k _ hk => by
    rcases hk with hk | hk
    · exact .inl hk
    · exact .inr ⟨0, _, h6, by rw [hb1, hk]; rfl⟩⟩ _ _ _ hb4
  rcases h2 with rfl | rfl
  · exact ⟨h1.df, v, h4, v, cs', ty', rfl, hbk, hb3, hb6, h5⟩
  · exact ⟨h1.df, v, h4, v, cs', ty', rfl, hbk, hb3, hb6, h5⟩
end
end Go.Proofs.YtbbeldmcdjjnbaaDoor
namespace Go.Proofs.YtbbeldmcdjjnbaaDoor
open Go Go.RowKit
set_option linter.unusedSimpArgs false
set_option linter.unusedVariables false

def tblB (P : Program) : Tbl → Bool
  | [] => true
  | (t, τ) :: r => layB P τ (.inl t) && tblB P r
def cmpT (P : Program) (T : Tbl) : List TypeId → Bool
  | [] => true
  | t :: r => !P.eqGuardType P.depth t && (match tget T t with | some τ => Cmp P τ (.inl t) && Nat.ble τ.depth 10000 | none => true) && cmpT P T r
def elemB (P : Program) : UTbl → Bool
  | [] => true
  | (t, e) :: r => (match P.underlying t with | some (.slice e') => Nat.beq e e' | _ => false) && elemB P r
theorem tblB_ok {P : Program} {T : Tbl} (h : tblB P T = true) : ∀ t τ, tget T t = some τ → Lay P τ (.inl t) := by
  induction T with
  | nil => intro t τ h; cases h
  | cons p r ih =>
    obtain ⟨s, σ⟩ := p
    intro t τ ht
    simp only [tblB, Bool.and_eq_true] at h
    simp only [tget, cond_eq_ite, Nat.beq_eq] at ht
    split at ht
    · rename_i e; cases ht; exact e ▸ layB_ok _ _ h.1
    · exact ih h.2 t τ ht
theorem cmpT_ok {P : Program} {T : Tbl} {Q : List TypeId} (h : cmpT P T Q = true) : ∀ t, Q.any (Nat.beq t) = true → P.eqGuardType P.depth t = false ∧ ∀ τ, tget T t = some τ → Cmp P τ (.inl t) = true ∧ τ.depth ≤ 10000 := by
  induction Q with
  | nil => intro t h; cases h
  | cons s r ih =>
    intro t ht
    simp only [cmpT, Bool.and_eq_true, Bool.not_eq_true'] at h
    simp only [List.any_cons, Bool.or_eq_true, Nat.beq_eq] at ht
    rcases ht with rfl | ht
    · refine ⟨h.1.1, fun τ hτ => ?_⟩
      have := h.1.2
      rw [hτ] at this
      simp only [Bool.and_eq_true, Nat.ble_eq] at this
      exact this
    · exact ih h.2 t ht
theorem elemB_ok {P : Program} {U : UTbl} (h : elemB P U = true) : UOk P U := by
  induction U with
  | nil => intro t e h; cases h
  | cons p r ih =>
    obtain ⟨s, e'⟩ := p
    intro t e ht
    simp only [elemB, Bool.and_eq_true] at h
    simp only [uget, cond_eq_ite, Nat.beq_eq] at ht
    split at ht
    · rename_i hs
      cases ht
      subst hs
      have h1 := h.1
      split at h1
      · rename_i e2 h2
        rw [h2, Nat.eq_of_beq_eq_true h1]
      · cases h1
    · exact ih h.2 t e ht
theorem tok_of {P : Program} {T : Tbl} {Q : List TypeId} (h : tblB P T = true) (hq : cmpT P T Q = true) : TOk P T Q := ⟨tblB_ok h, cmpT_ok hq⟩
theorem CsOk.nil {P : Program} {G : World → Prop} : CsOk P G [] := fun f c h => by cases h
theorem CsOk.cons {P : Program} {G : World → Prop} {f : FuncId} {c : Ctr} {C : Ctrs} (h : CtrOk P G f c) (hC : CsOk P G C) : CsOk P G ((f, c) :: C) := by
  intro g d hg
  simp only [cget, cond_eq_ite, Nat.beq_eq] at hg
  split at hg
  · rename_i e; cases hg; exact e ▸ h
  · exact hC g d hg
theorem KnOk.withR {P : Program} {G : World → Prop} {K : Kn} (h : KnOk P G K) {R : List (FuncId × RCtr)} (hR : RsOk P G R) : KnOk P G { K with R := R } := ⟨h.t, h.u, h.c, h.st, hR⟩
theorem KnOk.with {P : Program} {G : World → Prop} {K : Kn} (h : KnOk P G K) {C : Ctrs} (hC : CsOk P G C) : KnOk P G { K with C := C } := ⟨h.t, h.u, hC, h.st, h.r⟩
theorem inR_small {n : Int} (h1 : -9223372036854775808 ≤ n) (h2 : n ≤ 9223372036854775807) : inR .i64 n := inR64.2 ⟨h1, h2⟩
theorem done1 {T : Tbl} {r : ResultVar} {σ : AS} {t : Ty} {x y : t.T} {p : List Prop} {v : V} (h : rOf T σ r = some (p, v)) (hp : allP p) (ht : t.argOk = true) (hc : coe t (dat σ.E v) = some y) (hxy : y = x) : Done T [r] σ none t x :=
  ⟨p, v, h, hp, ht, hxy ▸ hc⟩
theorem done2 {T : Tbl} {rs : List ResultVar} {σ : AS} {t : Ty} {x y : t.T} {p : List Prop} (hl : rs.length ≠ 1) (ht : t.tupData = true) (h : resOf T σ rs t = some (p, y)) (hp : allP p) (hxy : y = x) : Done T rs σ none t x := by
  match rs, hl, h with
  | [], hl, h => exact ⟨hl, ht, p, hxy ▸ h, hp⟩
  | [_], hl, _ => exact (hl rfl).elim
  | _ :: _ :: _, hl, h => exact ⟨hl, ht, p, hxy ▸ h, hp⟩
theorem doneO {T : Tbl} {s : Nat} {σ : AS} {τ τ' : Ty} {te : TypeId} {i : Nat} {xs ys : List τ.T} (h : Frame.get σ.F s = ⟨.obuf τ', i⟩) (he : Owns.get σ.E i = some (.buf te τ xs)) (hxy : xs = ys) : Done T [.tmp s] σ (some te) (.slice τ) ys :=
  ⟨τ, τ', i, xs, h, he, by rw [hxy]⟩
theorem boxEq {t : Ty} {x y : t.T} (h : x = y) : some (OObj.box t x) = some (OObj.box t y) := by rw [h]
theorem bufEq {te : TypeId} {t : Ty} {x y : List t.T} (h : x = y) : some (OObj.buf te t x) = some (OObj.buf te t y) := by rw [h]
theorem vSucc (k : Nat) : (⟨.int .i64, ((k : Int) + 1 : Int)⟩ : V) = ⟨.int .i64, (((k + 1 : Nat) : Int) : Int)⟩ := rfl
theorem inR_succ {k : Nat} (h : k < 9223372036854775807) : inR .i64 ((k : Int) + 1) := inR_small (by omega) (by omega)
theorem V.congr {t : Ty} {x y : t.T} (h : x = y) : (⟨t, x⟩ : V) = ⟨t, y⟩ := by rw [h]
end Go.Proofs.YtbbeldmcdjjnbaaDoor
