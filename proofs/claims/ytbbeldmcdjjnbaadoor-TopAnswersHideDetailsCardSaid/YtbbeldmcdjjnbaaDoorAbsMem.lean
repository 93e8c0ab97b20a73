/-
  Rules on variables that hold handles: a slice in a field is given away, a nil slice in a field is taken as the call's own. No program is read here.
  A region with one operation in its midst that is met by hand: a test against nil, a call that writes what it was handed.
  A region, part by part, some of its operations met by hand: map literals, reads of a map, calls that may panic. No program is read here.
  Functions that write a variable which they were handed by its address, or panic. No program is read here.
-/
import Derived.Test.YtbbeldmcdjjnbaaDoorAbsMore
namespace Go.Proofs.YtbbeldmcdjjnbaaDoor
open Go Go.RowKit
set_option linter.unusedSimpArgs false
set_option linter.unusedVariables false
section
variable {w0 : World} {X : Ownr} {n : Nat} {σ : AS} {β : Nat → Value} {a : Act} {w : World}
theorem RepH.set {O : Nat → Prop} : ∀ {vs : List V} {cs : List Value} {k : Nat} {v v' : V}, RepH w O β vs cs → vs[k]? = some v → (∀ u, RepV w O β v.t v.x u → RepV w O β v'.t v'.x u) → RepH w O β (vs.set k v') cs
  | [], _, _, _, _, _, h, _ => by simp at h
  | y :: r, _, 0, _, _, ⟨u, s, e, h2, h3, h4⟩, h, hv => by
    cases h
    exact ⟨u, s, e, h2, hv u h3, h4⟩
  | y :: r, _, k + 1, _, _, ⟨u, s, e, h2, h3, h4⟩, h, hv => ⟨u, s, e, h2, h3, RepH.set h4 (by simpa using h) hv⟩
/-- a slice of the call's own that is given away reads as a list -/
theorem Sim.viewOf (h : Sim w0 X n σ β a w) (hX : X.Ok w0) {i : Nat} {te : TypeId} {t : Ty} {xs : List t.T} (hi : Owns.get σ.E i = some (.buf te t xs)) : RepD w (OSet X ((i, none) :: σ.E) β) (.slice t) xs (β i) :=
  (h.own i _ hi).view (fun g _ hg => by
      rcases hg with hg | ⟨j, oj, h1, h2⟩
      · exact .inl hg
      · rw [Owns.get_cons] at h1
        by_cases hs : i = j
        · rw [if_pos hs] at h1; cases h1
        · rw [if_neg hs] at h1; exact .inr ⟨j, oj, h1, h2⟩) fun g hg hg' => by
      rcases hg' with hg' | ⟨j, oj, h1, h2⟩
      · have h3 := hX.1 g hg'
        rcases h.new i _ g hi hg with h4 | h4
        · omega
        · exact h3.2 h4
      · rw [Owns.get_cons] at h1
        by_cases hs : i = j
        · rw [if_pos hs] at h1; cases h1
        · rw [if_neg hs] at h1
          exact h.inj i j _ _ hi h1 hs g hg h2
/-- a field of a variable takes another plain value for what its cell holds -/
theorem Sim.leaf (h : Sim w0 X n σ β a w) {i k : Nat} {vs : List V} {v v' : V} (hi : Owns.get σ.E i = some (.hbox vs)) (hk : vs[k]? = some v) (hv : ∀ u, RepV w (OSet X σ.E β) β v.t v.x u → RepV w (OSet X σ.E β) β v'.t v'.x u) (hb : v'.bound ≤ σ.nx) :
    Sim w0 X n { σ with E := (i, some (.hbox (vs.set k v'))) :: σ.E } β a w := by
  refine h.write (w' := w) hi ⟨rfl, rfl, rfl, Nat.le_refl _, fun _ _ _ => rfl⟩ (fun _ => ?_) rfl ?_
  · obtain ⟨g, cs, ty, e, h1, h2, h3⟩ := h.own i _ hi
    exact ⟨g, cs, ty, e, h1, h2, h3.set hk hv⟩
  · intro ws e u hu
    cases e
    rcases List.mem_or_eq_of_mem_set hu with hu | rfl
    · exact h.hE i _ hi vs rfl u hu
    · exact hb
/-- a nil slice as the call's own -/
theorem Sim.growNil (h : Sim w0 X n σ β a w) (te : TypeId) (τ : Ty) (hτ : 0 < τ.size) : ∃ β', (∀ i, i < σ.nx → β' i = β i) ∧ β' σ.nx = .slice none 0 0 ∧ Sim w0 X n { σ with E := (σ.nx, some (.buf te τ [])) :: σ.E, nx := σ.nx + 1 } β' a w := by
  refine ⟨fun j => if j = σ.nx then .slice none 0 0 else β j, fun i hi => by simp [Nat.ne_of_lt hi], by simp, ?_⟩
  have hO := fun g => OSet.new (X := X) (β := β) (bv := .slice none 0 0) (o := .buf te τ []) h.lt g
  have hkeep : Keeps w w (OSet X σ.E β) (OSet X ((σ.nx, some (.buf te τ [])) :: σ.E) (fun j => if j = σ.nx then .slice none 0 0 else β j)) :=
    ⟨Nat.le_refl _, fun _ _ _ => rfl, fun g _ hg' => by
      rcases (hO g).1 hg' with h1 | h1
      · exact h1
      · cases h1⟩
  refine ⟨h.sz, h.df, h.bel, fun s => RepV.update _ _ _ (h.hb s) (RepV.keep hkeep _ _ _ (h.fr s)), fun i oi hi => ?_, fun i oi g hi => ?_, fun i j oi oj hi hj hij g => ?_, fun i oi hi => ?_, ⟨Nat.le_succ_of_le h.fix.1, fun i hi => ?_⟩, fun s => Nat.le_succ_of_le (h.hb s), fun i oi hi => ?_⟩
  · rw [show Owns.get ((σ.nx, some (.buf te τ [])) :: σ.E) i = _ from Owns.get_cons ..] at hi
    by_cases hs : σ.nx = i
    · subst hs
      rw [if_pos rfl] at hi
      cases hi
      show OwnRep _ _ _ _ (if σ.nx = σ.nx then _ else _) _
      rw [if_pos rfl]
      exact ⟨[], rfl, ⟨by simp, .inl ⟨rfl, rfl⟩⟩, hτ⟩
    · rw [if_neg hs] at hi
      show OwnRep _ _ _ _ (if i = σ.nx then _ else _) _
      rw [if_neg (Ne.symm hs)]
      exact ((h.own i oi hi).keep hkeep fun _ _ => rfl).update (h.hE i oi hi)
  · rw [show Owns.get ((σ.nx, some (.buf te τ [])) :: σ.E) i = _ from Owns.get_cons ..] at hi
    show blockOf (if i = σ.nx then _ else β i) = some g → _
    by_cases hs : σ.nx = i
    · rw [if_pos hs.symm]; intro hg; cases hg
    · rw [if_neg hs] at hi
      rw [if_neg (Ne.symm hs)]
      exact h.new i oi g hi
  · rw [show Owns.get ((σ.nx, some (.buf te τ [])) :: σ.E) i = _ from Owns.get_cons ..] at hi
    rw [show Owns.get ((σ.nx, some (.buf te τ [])) :: σ.E) j = _ from Owns.get_cons ..] at hj
    show blockOf (if i = σ.nx then _ else β i) = some g → blockOf (if j = σ.nx then _ else β j) ≠ some g
    by_cases h1 : σ.nx = i
    · rw [if_pos h1.symm]; intro hg; cases hg
    · rw [if_neg h1] at hi
      rw [if_neg (Ne.symm h1)]
      by_cases h2 : σ.nx = j
      · rw [if_pos h2.symm]; intro _ hg; cases hg
      · rw [if_neg h2] at hj
        rw [if_neg (Ne.symm h2)]
        exact h.inj i j oi oj hi hj hij g
  · rw [show Owns.get ((σ.nx, some (.buf te τ [])) :: σ.E) i = _ from Owns.get_cons ..] at hi
    show i < σ.nx + 1
    by_cases hs : σ.nx = i
    · omega
    · rw [if_neg hs] at hi
      have := h.lt i oi hi
      omega
  · obtain ⟨h2, h3⟩ := h.fix.2 i hi
    have hne : i ≠ σ.nx := by have := h.fix.1; omega
    refine ⟨?_, fun oi ho => ?_⟩
    · show blockOf (if i = σ.nx then _ else β i) = some (X.fix i)
      rw [if_neg hne]
      exact h2
    · rw [show Owns.get ((σ.nx, some (.buf te τ [])) :: σ.E) i = _ from Owns.get_cons .., if_neg (Ne.symm hne)] at ho
      exact h3 oi ho
  · rw [show Owns.get ((σ.nx, some (.buf te τ [])) :: σ.E) i = _ from Owns.get_cons ..] at hi
    by_cases hs : σ.nx = i
    · rw [if_pos hs] at hi; cases hi; intro _ e; cases e
    · rw [if_neg hs] at hi
      intro vs e v hv
      exact Nat.le_succ_of_le (h.hE i oi hi vs e v hv)
/-- the slice in a field is given away -/
def frzL (σ : AS) (i k : Nat) : AS :=
  match Owns.get σ.E i with
  | some (.hbox vs) => match vs[k]? with
    | some ⟨.obuf _, j⟩ => match Owns.get σ.E j with
      | some (.buf _ t xs) => { F := Frame.thaw j t xs σ.F, E := (i, some (.hbox (vs.set k ⟨.slice t, xs⟩))) :: (j, none) :: σ.E, nx := σ.nx }
      | _ => σ
    | _ => σ
  | _ => σ
theorem Sim.frzL (h : Sim w0 X n σ β a w) (hX : X.Ok w0) (i k : Nat) : Sim w0 X n (frzL σ i k) β a w := by
  unfold Go.Proofs.YtbbeldmcdjjnbaaDoor.frzL
  split
  · rename_i vs hi
    split
    · rename_i t0 j hk
      split
      · rename_i te t xs hj
        have h1 := h.freeze hX hj
        have hij : j ≠ i := fun e => by subst e; rw [hi] at hj; cases hj
        have hi' : Owns.get ((j, none) :: σ.E) i = some (.hbox vs) := by rw [Owns.get_cons, if_neg hij]; exact hi
        have hview := h.viewOf hX hj
        exact h1.leaf hi' hk (v' := ⟨.slice t, xs⟩) (fun u hu => by
          have hu : u = β j := hu
          rw [hu]
          exact repD_repV hview) (Nat.zero_le _)
      · exact h
    · exact h
  · exact h
end
section
variable {P : Program} {w0 : World} {X : Ownr} {n : Nat} {σ : AS} {Q : Exit → AS → Prop}
theorem AWP.frzL (hX : X.Ok w0) (i k : Nat) {c : Code} (h : AWP P w0 X n c (Go.Proofs.YtbbeldmcdjjnbaaDoor.frzL σ i k) Q) : AWP P w0 X n c σ Q := fun β a w hs => h β a w (hs.frzL hX i k)
/-- a nil slice in a field as the call's own -/
theorem AWP.nilLeaf (i k : Nat) (te : TypeId) (τ : Ty) {vs : List V} {c : Code} (hi : Owns.get σ.E i = some (.hbox vs)) (hk : vs[k]? = some ⟨.lit, .slice none 0 0⟩) (hτ : Nat.blt 0 τ.size = true)
    (h : AWP P w0 X n c { σ with E := (i, some (.hbox (vs.set k ⟨.obuf τ, σ.nx⟩))) :: (σ.nx, some (.buf te τ [])) :: σ.E, nx := σ.nx + 1 } Q) : AWP P w0 X n c σ Q := by
  intro β a w hs
  obtain ⟨β', h1, h2, h3⟩ := hs.growNil te τ (by simpa using hτ)
  have hlt := hs.lt i _ hi
  have hi' : Owns.get ((σ.nx, some (.buf te τ [])) :: σ.E) i = some (.hbox vs) := by rw [Owns.get_cons, if_neg (by omega)]; exact hi
  exact h β' a w (h3.leaf hi' hk (v' := ⟨.obuf τ, σ.nx⟩) (fun u hu => by
    have hu : u = .slice none 0 0 := hu
    show u = β' σ.nx
    rw [hu, h2]) (Nat.le_refl _))
end
end Go.Proofs.YtbbeldmcdjjnbaaDoor
namespace Go.Proofs.YtbbeldmcdjjnbaaDoor
open Go Go.RowKit
set_option linter.unusedSimpArgs false
set_option linter.unusedVariables false
section
variable {P : Program} {K : Kn} {w0 : World} {X : Ownr} {n : Nat} {σ : AS} {Q : Exit → AS → Prop}
theorem AWP.mid (hX : X.Ok w0) (hK : KnOk P X.G K) {id : Nat} {ops : Array Oper} (pre : List Oper) (o : Oper) (rest : List Oper) (hops : ops.toList = pre ++ o :: rest) (hgd : o.guard = none) {r1 : List Prop × AS} (hs : aSeq K n ops pre σ = some r1) (hp : allP r1.1)
    (hstep : ∀ β a w, Sim w0 X n r1.2 β a w → o.wp P a w (fun a' w' => ∃ σ2 β' r2, Sim w0 X n σ2 β' a' w' ∧ aSeq K n ops rest σ2 = some r2 ∧ allP r2.1 ∧ Q .normal r2.2) (fun e a' w' => e ≠ .outgrown ∧ ∃ σ' β', Sim w0 X n σ' β' a' w' ∧ Q e σ'))
    (hd1 : noDefer pre = true := by rfl) (hd2 : noDefer (o :: rest) = true := by rfl) : AWP P w0 X n (.region id ops false) σ Q := by
  intro β a w hsim
  let R : Exit → Act → World → Prop := fun e a' w' => e ≠ .outgrown ∧ ∃ σ' β', Sim w0 X n σ' β' a' w' ∧ Q e σ'
  have hno : ¬ LetsOut R := fun ⟨_, _, h, _⟩ => h rfl
  have h2 : ∀ β a w, Sim w0 X n r1.2 β a w → wpList P ops R (o :: rest) a w := fun β a w h => by
    refine wpList_plain hgd fun K' hK' => ?_
    refine Oper.wp_mono (fun a' w' ⟨σ2, β', r2, h3, h4, h5, h6⟩ => hK' a' w' ?_) (hstep β a w h)
    exact aSeq_wp hK hX rest h3 h4 h5 fun β'' a'' w'' h7 => ⟨(fun h => by cases h), r2.2, β'', h7, h6⟩
  refine Go.wpIn_mono (wpIn_region_list (Q := R) ?_) fun e a w h => h.2
  rw [hops]
  refine wpListIn_append _ _ (wpListIn_of_wpList not_lets _ hd1 (aSeq_wp hK hX pre hsim hs hp fun β' a' w' h => ⟨rfl, ?_⟩))
  exact wpListIn_of_wpList hno _ hd2 (h2 β' a' w' h)
theorem eqNil_run {w : World} {xt e : TypeId} (hu : P.underlying xt = some (.slice e)) (A : Option Addr) (l c : Nat) : ∀ d, 0 < d → (Op.equalIn d xt (.slice A l c) (.slice none 0 0)).run P w = .ok A.isNone w
  | 0, h => absurd h (Nat.lt_irrefl 0)
  | d + 1, _ => by cases A <;> simp [Op.equalIn, run_underlying hu]
theorem binNil_run {w : World} {xt e : TypeId} (hu : P.underlying xt = some (.slice e)) (A : Option Addr) (l c : Nat) : (Go.binOp .eql xt (.slice A l c) (.slice none 0 0)).run P w = .ok (.bool A.isNone) w := by
  simp only [Go.binOp, Op.equal, Op.maxDepth, Sem.run_bind, eqNil_run hu A l c 10000 (by decide), Result.andThen_ok, Sem.run_pure]
/-- a slice is compared with nil -/
theorem AWP.nilEq (hX : X.Ok w0) (hK : KnOk P X.G K) {id : Nat} {ops : Array Oper} (pre : List Oper) (o : Oper) {xt yt e : TypeId} {x : Operand} {d : Nat} {τ : Ty} {xs : List τ.T} (hops : ops.toList = pre ++ [o])
    (ho : o.op = .binOp .eql xt x (.const (.slice none 0 0)) yt) (hgd : o.guard = none) (hdst : o.dst = some d) (hd : Nat.blt d n = true) (hu : P.underlying xt = some (.slice e)) {r1 : List Prop × AS} (hs : aSeq K n ops pre σ = some r1) (hp : allP r1.1)
    (hx : evO r1.2.F x = ⟨.slice τ, xs⟩) (hq : ∀ b : Bool, (b = true → xs = []) → Q .normal ⟨(d, ⟨.bool, b⟩) :: r1.2.F, r1.2.E, r1.2.nx⟩) (hd1 : noDefer pre = true := by rfl) (hd2 : noDefer [o] = true := by rfl) : AWP P w0 X n (.region id ops false) σ Q := by
  refine AWP.mid hX hK pre o [] hops hgd hs hp (fun β a w h => ?_) hd1 hd2
  have hd' : d < n := by simpa using hd
  have hv := h.ops x
  rw [hx] at hv
  have hv : RepD w (OSet X r1.2.E β) (.slice τ) xs (a.eval x) := hv
  obtain ⟨A, l, c, hA, hE⟩ : ∃ A l c, a.eval x = .slice A l c ∧ (A = none → xs = []) := by
    have h3 : ∃ v, [a.eval x] = [v] ∧ RepS w (OSet X r1.2.E β) (RepC w (OSet X r1.2.E β) τ) xs v := hv
    obtain ⟨v, e1, h3⟩ := h3
    cases e1
    rcases h3 with ⟨h3, A, c, h4, _⟩ | ⟨g, off, c, vs, h4, _⟩
    · exact ⟨A, 0, c, h4, fun _ => h3⟩
    · exact ⟨_, _, c, h4, fun h => by cases h⟩
  have hrun : (execOp a.eval o).run P w = .ok (.value (.bool A.isNone)) w := by
    unfold execOp
    simp only [ho]
    have he : a.eval (.const (.slice none 0 0)) = .slice none 0 0 := rfl
    rw [hA, he]
    exact run_v (guard_run (fun cs h => by cases h) (fun h => by cases h) (binNil_run hu A l c))
  refine wp_run hrun ?_
  rw [hdst]
  exact ⟨_, β, ([], _), h.put (Below.refl _ _) (v := ⟨.bool, A.isNone⟩) RepV.ofBool (Nat.zero_le _) hd', rfl, trivial, hq _ fun hb => hE (by simpa using hb)⟩
end
end Go.Proofs.YtbbeldmcdjjnbaaDoor
namespace Go.Proofs.YtbbeldmcdjjnbaaDoor
open Go Go.RowKit
set_option linter.unusedSimpArgs false
set_option linter.unusedVariables false
section
variable {P : Program} {K : Kn} {w0 : World} {X : Ownr} {n : Nat} {σ : AS} {Q : Exit → AS → Prop} {ops : Array Oper}
/-- two lists, one behind the other; the first may be left otherwise -/
theorem wpListIn_join {F : Fence} {m : Nat} {R0 R : Exit → Act → World → Prop} (r : List Oper) (hno : ∀ a w, ¬ R0 .outgrown a w) (hN : ∀ a w, R0 .normal a w → wpListIn F m P ops R r a w) (hE : ∀ e a w, e ≠ .normal → R0 e a w → R e a w) : ∀ (l : List Oper) {a : Act} {w : World}, wpListIn F m P ops R0 l a w → wpListIn F m P ops R (l ++ r) a w
  | [], _, _, h => hN _ _ h
  | o :: l, a, w, h => by
    simp only [List.cons_append, wpListIn] at h ⊢
    split at h
    · rename_i hw
      rw [if_pos hw]
      have h2 := Oper.wpIn_mono (fun a w h => wpListIn_join r hno hN hE l h) h
      refine ⟨h2.1, ?_⟩
      have h3 := h2.2
      revert h3
      generalize (o.semAt F.round a.eval).run P w = x
      intro h3
      cases x with
      | ok x w' =>
        cases x with
        | enter f args =>
          refine ⟨h3.1, h3.2.mono fun e w'' he => ?_⟩
          cases e with
          | returned v => exact he
          | panicked c => exact hE _ _ _ (by intro h; cases h) he
          | outgrown => obtain ⟨_, _, h4⟩ := he; exact (hno _ _ h4).elim
        | round l f tmps assign body =>
          refine ⟨h3.1, h3.2.mono fun e w'' he => ?_⟩
          cases e with
          | returned v => exact he
          | panicked c => exact hE _ _ _ (by intro h; cases h) he
          | outgrown => obtain ⟨_, _, h4⟩ := he; exact (hno _ _ h4).elim
        | _ => exact h3
      | halt x w' =>
        cases x with
        | panic v => exact hE _ _ _ (by intro h; cases h) h3
        | _ => exact h3
    · rename_i hw
      rw [if_neg hw]
      exact ⟨h.1, wpListIn_join r hno hN hE l h.2⟩
/-- from every activation and world that stand for σ these operations come to what Q says -/
def AL (P : Program) (w0 : World) (X : Ownr) (n : Nat) (ops : Array Oper) (l : List Oper) (σ : AS) (Q : Exit → AS → Prop) : Prop :=
  ∀ β a w, Sim w0 X n σ β a w → wpListIn (wideR X.ρ) 0 P ops (fun e a' w' => e ≠ .outgrown ∧ ∃ σ' β', Sim w0 X n σ' β' a' w' ∧ Q e σ') l a w
/-- what follows is walked as it is -/
theorem AL.then {l r : List Oper} {R : Exit → Act → World → Prop} {β : Nat → Value} {a : Act} {w : World} (h : AL P w0 X n ops l σ Q) (hs : Sim w0 X n σ β a w) (hN : ∀ σ' β' a' w', Sim w0 X n σ' β' a' w' → Q .normal σ' → wpListIn (wideR X.ρ) 0 P ops R r a' w') (hE : ∀ e σ' β' a' w', e ≠ .normal → Sim w0 X n σ' β' a' w' → Q e σ' → R e a' w') : wpListIn (wideR X.ρ) 0 P ops R (l ++ r) a w :=
  wpListIn_join r (fun _ _ h => h.1 rfl) (fun a' w' ⟨_, σ', β', h1, h2⟩ => hN σ' β' a' w' h1 h2) (fun e a' w' he ⟨_, σ', β', h1, h2⟩ => hE e σ' β' a' w' he h1 h2) l (h β a w hs)
theorem AL.nil (h : Q .normal σ) : AL P w0 X n ops [] σ Q := fun β a w hs => ⟨(fun h => by cases h), σ, β, hs, h⟩
theorem AL.seq (hX : X.Ok w0) (hK : KnOk P X.G K) (pre : List Oper) {rest : List Oper} {r : List Prop × AS} (hs : aSeq K n ops pre σ = some r) (hp : allP r.1) (h : AL P w0 X n ops rest r.2 Q) (hd : noDefer pre = true := by rfl) : AL P w0 X n ops (pre ++ rest) σ Q :=
  fun β a w hsim => wpListIn_append _ _ (wpListIn_of_wpList not_lets _ hd (aSeq_wp hK hX pre hsim hs hp fun β' a' w' h' => ⟨rfl, h β' a' w' h'⟩))
theorem AL.all (hX : X.Ok w0) (hK : KnOk P X.G K) {l : List Oper} {r : List Prop × AS} (hs : aSeq K n ops l σ = some r) (hp : allP r.1) (hq : Q .normal r.2) (hd : noDefer l = true := by rfl) : AL P w0 X n ops l σ Q := by
  have h := AL.seq (rest := []) (Q := Q) hX hK l hs hp (AL.nil hq) hd
  rwa [List.append_nil] at h
/-- the first k operations -/
theorem AL.take (k : Nat) (hX : X.Ok w0) (hK : KnOk P X.G K) {l : List Oper} {r : List Prop × AS} (hs : aSeq K n ops (l.take k) σ = some r) (hp : allP r.1) (h : AL P w0 X n ops (l.drop k) r.2 Q) (hd : noDefer (l.take k) = true := by rfl) : AL P w0 X n ops l σ Q := by
  have h := AL.seq (Q := Q) hX hK (l.take k) hs hp h hd
  rwa [List.take_append_drop] at h
theorem AWP.list {id : Nat} (h : AL P w0 X n ops ops.toList σ Q) : AWP P w0 X n (.region id ops false) σ Q :=
  fun β a w hsim => Go.wpIn_mono (wpIn_region_list (h β a w hsim)) fun e a w h => h.2
/-- one operation by hand -/
theorem AL.hand {o : Oper} {rest : List Oper} (hgd : o.guard = none) (hnd : ∀ c, o.op ≠ .defer c)
    (h : ∀ β a w, Sim w0 X n σ β a w → o.wp P a w (fun a' w' => ∃ σ' β', Sim w0 X n σ' β' a' w' ∧ AL P w0 X n ops rest σ' Q) (fun e a' w' => e ≠ .outgrown ∧ ∃ σ' β', Sim w0 X n σ' β' a' w' ∧ Q e σ')) : AL P w0 X n ops (o :: rest) σ Q := by
  intro β a w hsim
  refine wpListIn_plain hgd fun K hK => wpIn_of_wp hnd (Oper.wp_mono (fun a' w' ⟨σ', β', h1, h2⟩ => hK a' w' (h2 β' a' w' h1)) (h β a w hsim))
theorem AL.fit {l : List Oper} {σ' : AS} (hf : Fit σ σ') (h : AL P w0 X n ops l σ' Q) (hk : X.K ≤ σ'.nx := by exact Nat.le_of_ble_eq_true rfl) : AL P w0 X n ops l σ Q :=
  fun β a w hs => h β a w (hs.fit hf hk)
end
/-! ### maps -/
section
variable {P : Program} {w : World}
/-- the value at a key, by the machine's own comparison of integers and strings -/
def findP (kd : TypeDesc) (k : Value) : List (Value × Value) → Option (Option Value)
  | [] => some none
  | e :: r => match Instr.sameNow kd k e.1 with
    | some true => some (some e.2)
    | some false => findP kd k r
    | none => none
theorem findNow_P (kd : TypeDesc) (k : Value) : ∀ (ms : List MapEntry) (i : Nat), (Instr.findNow kd k ms i).map (fun o => o.map (·.2)) = findP kd k (ms.map fun e => (e.key, e.val))
  | [], i => rfl
  | e :: r, i => by
    simp only [Instr.findNow, List.map_cons, findP]
    cases Instr.sameNow kd k e.key with
    | none => rfl
    | some b =>
      cases b with
      | true => rfl
      | false => exact findNow_P kd k r (i + 1)
/-- a key's type whose keys are compared at once -/
def plainKey : TypeDesc → Bool
  | .int _ => true
  | .string => true
  | _ => false
theorem run_checkKey_at (b : Bool) {t : TypeId} {kd : TypeDesc} (hk : P.underlying t = some kd) (hp : plainKey kd = true) (v : Value) (m : Nat) : (Instr.checkKey b (m + 1) t v).run P w = .ok () w := by
  cases kd <;> simp [plainKey] at hp <;> simp [Instr.checkKey, run_underlying hk]
theorem run_checkKey (b : Bool) {t : TypeId} {kd : TypeDesc} (hk : P.underlying t = some kd) (hp : plainKey kd = true) (v : Value) : (Instr.checkKey b 10000 t v).run P w = .ok () w := run_checkKey_at b hk hp v 9999
theorem run_getMap {r ck : Nat} {ms : Array MapEntry} (h : w.heap[r]? = some (.map ms ck)) : (getObj r).run P w = .ok (.map ms ck) w := by simp [getObj, Sem.run, h]
theorem run_setMap {r ck : Nat} {ms : Array MapEntry} (o : Obj) (h : w.heap[r]? = some (.map ms ck)) : (setObj r o).run P w = .ok () (w.putObj r o) := by simp [setObj, Sem.run, h, World.putObj]
theorem run_lookup_hit {t kt et : TypeId} {kd : TypeDesc} (hu : P.underlying t = some (.map kt et)) (hk : P.underlying kt = some kd) (hp : plainKey kd = true) {r ck : Nat} {ms : Array MapEntry} (h : w.heap[r]? = some (.map ms ck)) {key v : Value}
    (hf : findP kd key (ms.toList.map fun e => (e.key, e.val)) = some (some v)) : (Instr.lookup t (.map (some r)) key false).run P w = .ok v w := by
  rw [← findNow_P kd key ms.toList 0] at hf
  obtain ⟨o, ho, hf⟩ := Option.map_eq_some_iff.1 hf
  obtain ⟨⟨i, v'⟩, rfl, rfl⟩ := Option.map_eq_some_iff.1 hf
  simp [Instr.lookup, Instr.findKey, run_underlying hu, run_underlying hk, run_getMap h, run_checkKey _ hk hp, ho]
theorem run_insert_new {t kt et : TypeId} {kd : TypeDesc} (hu : P.underlying t = some (.map kt et)) (hk : P.underlying kt = some kd) (hp : plainKey kd = true) {r ck : Nat} {ms : Array MapEntry} (h : w.heap[r]? = some (.map ms ck)) {key v : Value}
    (hf : findP kd key (ms.toList.map fun e => (e.key, e.val)) = some none) : (Instr.mapUpdate t (.map (some r)) key v).run P w = .ok () (w.putObj r (.map (ms.push { key := key, val := v, born := ck }) (ck + 1))) := by
  rw [← findNow_P kd key ms.toList 0] at hf
  obtain ⟨o, ho, hf⟩ := Option.map_eq_some_iff.1 hf
  cases o with
  | some x => cases hf
  | none => simp [Instr.mapUpdate, Instr.findKey, run_underlying hu, run_underlying hk, run_getMap h, run_checkKey _ hk hp, ho, run_setMap _ h]
end
/-- the operations that lay a literal's keys and values -/
def InsL (t : TypeId) (s : Nat) : List (Value × Value) → List Oper → Prop
  | [], l => l = []
  | e :: es, l => ∃ o r ko vo, l = o :: r ∧ o.op = .insert t (.tmp s) ko vo ∧ (∀ a : Act, a.eval ko = e.1) ∧ (∀ a : Act, a.eval vo = e.2) ∧ o.guard = none ∧ o.dst = none ∧ InsL t s es r
theorem InsL.cons {t : TypeId} {s : Nat} {o : Oper} {r : List Oper} {ko vo : Operand} {e : Value × Value} {es : List (Value × Value)} (ho : o.op = .insert t (.tmp s) ko vo) (hk : ∀ a : Act, a.eval ko = e.1) (hv : ∀ a : Act, a.eval vo = e.2) (hg : o.guard = none) (hd : o.dst = none) (h : InsL t s es r) : InsL t s (e :: es) (o :: r) := ⟨o, r, ko, vo, rfl, ho, hk, hv, hg, hd, h⟩
def freshKeys (kd : TypeDesc) : List (Value × Value) → List (Value × Value) → Prop
  | _, [] => True
  | done, e :: r => findP kd e.1 done = some none ∧ freshKeys kd (done ++ [e]) r
section
variable {P : Program} {w0 : World} {X : Ownr} {n : Nat} {σ : AS} {Q : Exit → AS → Prop} {ops : Array Oper}
theorem wp_runU {a : Act} {w w' : World} {o : Oper} {N : Act → World → Prop} {R : Exit → Act → World → Prop} (h : (execOp a.eval o).run P w = .ok .skip w' ∨ ∃ u, (execOp a.eval o).run P w = .ok (.value u) w') (hdst : o.dst = none) (hN : N a w') : o.wp P a w N R := by
  have hput : ∀ u, a.put o.dst u = a := fun u => by rw [hdst]; rfl
  unfold Oper.wp
  rcases h with h | ⟨u, h⟩
  · rw [h]
    show N (a.put o.dst undef) w'
    rw [hput]
    exact hN
  · rw [h]
    show N (a.put o.dst u) w'
    rw [hput]
    exact hN
theorem mapLit_go {t kt et : TypeId} {kd : TypeDesc} (hu : P.underlying t = some (.map kt et)) (hk : P.underlying kt = some kd) (hp : plainKey kd = true) {s r : Nat} {w : World} (hr : w.heap.size ≤ r) {a : Act} (ha : a.tmps.getD s undef = .map (some r)) {rest : List Oper} {ρ : Option Nat} {R : Exit → Act → World → Prop} :
    ∀ (es : List (Value × Value)) (ins : List Oper) (w1 : World) (ms : Array MapEntry) (ck : Nat), InsL t s es ins → freshKeys kd (ms.toList.map fun e => (e.key, e.val)) es → Below w.heap.size w w1 → w1.heap[r]? = some (.map ms ck) →
      (∀ w2 ms' ck', Below w.heap.size w w2 → w2.heap[r]? = some (.map ms' ck') → (ms'.toList.map fun e => (e.key, e.val)) = (ms.toList.map fun e => (e.key, e.val)) ++ es → wpListIn (wideR ρ) 0 P ops R rest a w2) →
      wpListIn (wideR ρ) 0 P ops R (ins ++ rest) a w1
  | [], ins, w1, ms, ck, hi, _, hb, hm, h => by
    have hi : ins = [] := hi
    subst hi
    exact h w1 ms ck hb hm (by simp)
  | e :: es, ins, w1, ms, ck, hi, hf, hb, hm, h => by
    obtain ⟨o, l, ko, vo, rfl, ho, hko, hvo, hg, hd, hi⟩ := hi
    refine wpListIn_plain hg fun K hK => wpIn_of_wp (fun c e' => by rw [ho] at e'; cases e') ?_
    have hrun := run_insert_new hu hk hp hm (key := e.1) (v := e.2) hf.1
    have hlt := (Array.getElem?_eq_some_iff.1 hm).1
    refine wp_runU (w' := w1.putObj r (.map (ms.push { key := e.1, val := e.2, born := ck }) (ck + 1))) ?_ hd (hK _ _ ?_)
    · unfold execOp
      simp only [ho]
      have e1 : a.eval (.tmp s) = .map (some r) := ha
      rw [hko, hvo, e1]
      first
        | exact .inl (by simp [hrun])
        | exact .inr ⟨_, by simp [hrun]⟩
    · refine mapLit_go hu hk hp hr ha es l _ _ _ hi ?_ (hb.grown (grownBy_putObj' w1 r _) hb.size (fun k e => by cases e; exact hr)) (World.putObj_heap_same hlt) ?_
      · rw [Array.toList_push, List.map_append]
        exact hf.2
      · intro w2 ms' ck' h1 h2 h3
        refine h w2 ms' ck' h1 h2 ?_
        rw [h3, Array.toList_push, List.map_append, List.append_assoc]
        rfl
/-- a map literal -/
theorem AL.mapLit (hX : X.Ok w0) {t kt et : TypeId} {kd : TypeDesc} (hu : P.underlying t = some (.map kt et)) (hk : P.underlying kt = some kd) (hp : plainKey kd = true) {o : Oper} {ins rest : List Oper} {d : Nat} (es : List (Value × Value)) (ho : o.op = .makeMap t none) (hg : o.guard = none) (hdst : o.dst = some d) (hd : Nat.blt d n = true)
    (hi : InsL t d es ins) (hf : freshKeys kd [] es) (h : AL P w0 X n ops rest ⟨(d, ⟨.mapL, es⟩) :: σ.F, σ.E, σ.nx⟩ Q) : AL P w0 X n ops (o :: (ins ++ rest)) σ Q := by
  intro β a w hs
  have hd' : d < n := by simpa using hd
  refine wpListIn_plain hg fun K hK => wpIn_of_wp (fun c e' => by rw [ho] at e'; cases e') (wp_run (u := .map (some w.heap.size)) (w' := w.alloc (.map #[] 0)) ?_ (hK _ _ ?_))
  · unfold execOp
    simp only [ho]
    exact run_v rfl
  · rw [hdst]
    refine mapLit_go hu hk hp (w := w) (r := w.heap.size) (Nat.le_refl _) (by rw [Act.put_get (by rw [hs.sz]; exact hd'), if_pos rfl]) es ins _ #[] 0 hi hf (below_alloc w _) (World.alloc_heap_new w _) ?_
    intro w2 ms ck h1 h2 h3
    exact h _ _ _ (hs.put h1 (v := ⟨.mapL, es⟩) ⟨w.heap.size, ms, ck, rfl, (Array.getElem?_eq_some_iff.1 h2).1, fun hO => absurd (hs.hO hX _ hO) (Nat.lt_irrefl _), h2, by rw [h3]; rfl⟩ (Nat.zero_le _) hd')
/-- a read of a map -/
theorem AL.look {t kt et : TypeId} {kd : TypeDesc} (hu : P.underlying t = some (.map kt et)) (hk : P.underlying kt = some kd) (hp : plainKey kd = true) {o : Oper} {rest : List Oper} {m k : Operand} {d : Nat} {es : List (Value × Value)} {key v : Value} (V : V) (ho : o.op = .lookup t m k false) (hg : o.guard = none) (hdst : o.dst = some d) (hd : Nat.blt d n = true)
    (hm : evO σ.F m = ⟨.mapL, es⟩) (hkey : ∀ β a w, Sim w0 X n σ β a w → a.eval k = key) (hf : findP kd key es = some (some v)) (hV : ∀ w O β, RepV w O β V.t V.x v) (hb : V.bound = 0) (h : AL P w0 X n ops rest ⟨(d, V) :: σ.F, σ.E, σ.nx⟩ Q) : AL P w0 X n ops (o :: rest) σ Q := by
  refine AL.hand hg (fun c e' => by rw [ho] at e'; cases e') fun β a w hs => ?_
  have hd' : d < n := by simpa using hd
  have h1 := hs.ops m
  rw [hm] at h1
  obtain ⟨r, ms, ck, h2, _, _, h3, h4⟩ := h1
  refine wp_run (u := v) (w' := w) ?_ ?_
  · unfold execOp
    simp only [ho]
    rw [h2, hkey β a w hs]
    exact run_v (run_lookup_hit hu hk hp h3 (by rw [h4]; exact hf))
  · rw [hdst]
    exact ⟨_, β, hs.put (Below.refl _ _) (v := V) (hV _ _ _) (by rw [hb]; exact Nat.zero_le _) hd', h⟩
theorem key_int {k : Operand} {x : Int} (hk : evO σ.F k = ⟨.int .i64, x⟩) : ∀ β a w, Sim w0 X n σ β a w → a.eval k = .int .i64 x := fun β a w hs => by
  have h1 := hs.ops k
  rw [hk] at h1
  exact RepV.int h1
theorem key_str {k : Operand} {x : List UInt8} (hk : evO σ.F k = ⟨.str, x⟩) : ∀ β a w, Sim w0 X n σ β a w → a.eval k = .string ⟨x.toArray⟩ := fun β a w hs => by
  have h1 := hs.ops k
  rw [hk] at h1
  exact (RepV.str h1).1
end
end Go.Proofs.YtbbeldmcdjjnbaaDoor
namespace Go.Proofs.YtbbeldmcdjjnbaaDoor
open Go Go.RowKit
set_option linter.unusedSimpArgs false
set_option linter.unusedVariables false
/-- what such a function does: its result and what the variable holds then, or what it panics with -/
structure PCtr where
  self : Ty
  args : List Ty
  inv : World → Nat → Prop
  pre : self.T → Args args → List Prop
  res : Ty
  out : self.T → Args args → Except Value (res.T × self.T)
def PEnd (c : PCtr) (w w' : World) (O : Nat → Prop) (g : Nat) (e : Ending) : Except Value (c.res.T × c.self.T) → Prop
  | .ok (y, x') => ∃ v cs' ty', e = .returned v ∧ w'.heap[g]? = some (.cells (List.toArray cs') ty' (0, 0)) ∧ RepC w' (fun h => O h ∨ h = g) c.self x' cs' ∧ (c.res = .unit ∨ ResRel w' O w.heap.size none c.res y v)
  | .error pv => e = .panicked [{ v := pv, recovered := false }] ∧ ∃ x' cs' ty', w'.heap[g]? = some (.cells (List.toArray cs') ty' (0, 0)) ∧ RepC w' (fun h => O h ∨ h = g) c.self x' cs'
def PCtrOk (P : Program) (G : World → Prop) (f : FuncId) (c : PCtr) : Prop :=
  (∀ (as : Array Value) (w : World), (callFunc f as).run P w = .ok (.enter f as) w) ∧
  ∀ (w : World) (O : Nat → Prop) (g : Nat) (cs : List Value) (ty : TypeId) (x : c.self.T) (xs : Args c.args) (vs : List Value), (∀ h, O h → h < w.heap.size ∧ h ≠ g) → w.heap[g]? = some (.cells cs.toArray ty (0, 0)) →
    RepC w (fun h => O h ∨ h = g) c.self x cs → RepA w (fun h => O h ∨ h = g) c.args xs vs → allP (c.pre x xs) → c.inv w g → G w →
    Calls P f (Value.pointer (some ⟨g, 0, none⟩) :: vs).toArray w fun e w' => Kept (fun h => h = g) w w' ∧ PEnd c w w' O g e (c.out x xs)
/-- what its walk must leave -/
def PDone (T : Tbl) (rs : List ResultVar) (c : PCtr) (e : Exit) (σ : AS) : Except Value (c.res.T × c.self.T) → Prop
  | .ok (y, x') => (e = .normal ∨ e = .ret) ∧ Owns.get σ.E 0 = some (.box c.self x') ∧ Done T rs σ none c.res y
  | .error pv => e = .panic [{ v := pv, recovered := false }] ∧ ∃ x', Owns.get σ.E 0 = some (.box c.self x')
section
variable {P : Program} {K : Kn} {n : Nat}
theorem pctr_of_awp {G : World → Prop} (hK : KnOk P G K) {f : FuncId} {fn : Func} {c : Code} {ctr : PCtr} (hf : P.funcs[f]? = some fn) (hb : fn.body = some c) (hn : fn.ntmps = n)
    (hen : ∀ (as : Array Value) (w : World), (callFunc f as).run P w = .ok (.enter f as) w) (hd : allData ctr.args = true) (hlen : ctr.args.length + 1 ≤ n) (hst : ∀ w w' g, ctr.inv w g → G w → Kept (fun h => h = g) w w' → G w')
    (h : ∀ (w0 : World) (O : Nat → Prop) (g : Nat), (Ownr.one G O g).Ok w0 → ctr.inv w0 g → ∀ (x : ctr.self.T) (xs : Args ctr.args), allP (ctr.pre x xs) →
      AWP P w0 (Ownr.one G O g) n c (initR ctr.self x ctr.args xs) (fun e σ => PDone K.T fn.results.toList ctr e σ (ctr.out x xs))) : PCtrOk P G f ctr := by
  refine ⟨hen, fun w O g cs ty x xs vs hO hg hx hrep hp hinv hG => calls_of_wp hf hb ?_⟩
  have hvl := repA_len _ _ _ hrep
  have hgl := (Array.getElem?_eq_some_iff.1 hg).1
  let X : Ownr := Ownr.one G O g
  have hXR : ∀ h, X.R h ↔ h = g := Ownr.one_R _ _ _
  have hX : X.Ok w := ⟨fun h hh => ⟨(hO h hh).1, fun e => (hO h hh).2 ((hXR h).1 e)⟩, fun h e => by rw [(hXR h).1 e]; exact hgl, fun w' hk => hst w w' g hinv hG ⟨hk.os, hk.tape, hk.output, hk.size, fun k hkl hr => hk.block k hkl fun hr' => hr ((hXR k).1 hr')⟩⟩
  let β : Nat → Value := fun _ => .pointer (some ⟨g, 0, none⟩)
  have hE : OSet X (initR ctr.self x ctr.args xs).E β = fun h => O h ∨ h = g := by
    funext k
    apply propext
    constructor
    · rintro (h | ⟨i, o, _, h⟩)
      · exact .inl h
      · exact .inr (by simpa [β, blockOf] using h.symm)
    · rintro (h | h)
      · exact .inl h
      · exact .inr ⟨0, _, rfl, by rw [h]; rfl⟩
  have hget : ∀ i o, Owns.get (initR ctr.self x ctr.args xs).E i = some o → i = 0 ∧ o = .box ctr.self x := fun i o h => by
    rw [show (initR ctr.self x ctr.args xs).E = [(0, some (.box ctr.self x))] from rfl, Owns.get_cons] at h
    by_cases hi : 0 = i
    · rw [if_pos hi] at h; cases h; exact ⟨hi.symm, rfl⟩
    · rw [if_neg hi] at h; cases h
  have hsim : Sim w X n (initR ctr.self x ctr.args xs) β { tmps := (Value.pointer (some ⟨g, 0, none⟩) :: vs).toArray ++ Array.replicate (fn.ntmps - (Value.pointer (some ⟨g, 0, none⟩) :: vs).toArray.size) undef, defers := [] } w := by
    refine ⟨by simp [hn, hvl]; omega, rfl, Kept.refl _ _, fun s => ?_, fun i o h => ?_, fun i o k h hk => ?_, fun i j oi oj h h' hne => ?_, fun i o h => ?_, ⟨Nat.le_refl _, fun i hi => ⟨rfl, fun o ho => ?_⟩⟩, fun s => ?_, fun i o h => by rw [(hget i o h).2]; intro _ e; cases e⟩
    · rw [hE]
      have e : ((Value.pointer (some ⟨g, 0, none⟩) :: vs).toArray ++ Array.replicate (fn.ntmps - (Value.pointer (some ⟨g, 0, none⟩) :: vs).toArray.size) undef) = ([Value.pointer (some ⟨g, 0, none⟩)] ++ vs ++ List.replicate (fn.ntmps - (vs.length + 1)) undef).toArray := by simp
      show RepV w _ _ _ _ (((Value.pointer (some ⟨g, 0, none⟩) :: vs).toArray ++ Array.replicate (fn.ntmps - (Value.pointer (some ⟨g, 0, none⟩) :: vs).toArray.size) undef).getD s undef)
      rw [e]
      have := initF_rep (β := β) ctr.args xs vs [Value.pointer (some ⟨g, 0, none⟩)] (List.replicate (fn.ntmps - (vs.length + 1)) undef) hd hrep s
      have key : ∀ u : Value, RepV w (fun h => O h ∨ h = g) β (Frame.get ((0, ⟨.optr ctr.self, ⟨0, ctr.self, .here⟩⟩) :: initF ctr.args xs 1) s).t (Frame.get ((0, ⟨.optr ctr.self, ⟨0, ctr.self, .here⟩⟩) :: initF ctr.args xs 1) s).x u = RepV w (fun h => O h ∨ h = g) β (if 0 = s then (⟨.optr ctr.self, ⟨0, ctr.self, .here⟩⟩ : V) else Frame.get (initF ctr.args xs 1) s).t (if 0 = s then (⟨.optr ctr.self, ⟨0, ctr.self, .here⟩⟩ : V) else Frame.get (initF ctr.args xs 1) s).x u := fun u => by
        rw [← Frame.get_cons]
      refine (key _).mpr ?_
      by_cases hs : 0 = s
      · rw [if_pos hs]
        subst hs
        exact ⟨g, rfl, by simp [Array.getD, Path.off]⟩
      · rw [if_neg hs]
        exact this
    · obtain ⟨rfl, rfl⟩ := hget i o h
      exact ⟨g, cs, ty, rfl, Nat.zero_le _, hg, by rw [hE]; exact hx⟩
    · exact .inr ((hXR k).2 (by simpa [β, blockOf] using hk.symm))
    · have := (hget i oi h).1
      have := (hget j oj h').1
      omega
    · have := (hget i o h).1
      subst this
      exact Nat.lt_succ_self 0
    · rw [(hget i o ho).2]; rfl
    · show (Frame.get ((0, ⟨.optr ctr.self, ⟨0, ctr.self, .here⟩⟩) :: initF ctr.args xs 1) s).bound ≤ 1
      rw [Frame.get_cons]
      by_cases hs : 0 = s
      · rw [if_pos hs]; exact Nat.le_refl _
      · rw [if_neg hs, initF_bound _ _ _ _ hd]
        exact Nat.zero_le _
  refine wp_mono (wpIn_wide.1 (h w O g hX hinv x xs hp _ _ _ hsim)) fun e a' w' ⟨σ', β', h1, h2⟩ => ?_
  have hbk : Kept (fun h => h = g) w w' := ⟨h1.bel.os, h1.bel.tape, h1.bel.output, h1.bel.size, fun k hk hr => h1.bel.block k hk fun hr' => hr ((hXR k).1 hr')⟩
  have hself : ∀ x', Owns.get σ'.E 0 = some (.box ctr.self x') → ∃ cs' ty', w'.heap[g]? = some (.cells (List.toArray cs') ty' (0, 0)) ∧ RepC w' (fun h => O h ∨ h = g) ctr.self x' cs' := fun x' h6 => by
    obtain ⟨g', cs', ty', hb1, _, hb3, hb4⟩ := h1.own 0 _ h6
    have hb5 := (h1.fix.2 0 (Nat.lt_succ_self 0)).1
    rw [hb1] at hb5
    have hgg : g' = g := by simpa [blockOf, X, Ownr.one] using hb5
    subst hgg
    exact ⟨cs', ty', hb3, RepC.keep ⟨Nat.le_refl _, fun _ _ _ => rfl, fun k _ hk => by
      rcases hk with hk | hk
      · exact .inl hk
      · exact .inr ⟨0, _, h6, by rw [hb1, hk]; rfl⟩⟩ _ _ _ hb4⟩
  revert h2
  cases ho : ctr.out x xs with
  | error pv =>
    rintro ⟨rfl, x', h6⟩
    obtain ⟨cs', ty', h7, h8⟩ := hself x' h6
    exact ⟨h1.df, hbk, rfl, x', cs', ty', h7, h8⟩
  | ok p =>
    obtain ⟨y, x'⟩ := p
    rintro ⟨h2, h6, h3⟩
    obtain ⟨cs', ty', h7, h8⟩ := hself x' h6
    obtain ⟨v, h4, h5⟩ := done_res (X := X) hK hX h1.seen h3 (.inl rfl)
    rcases h2 with rfl | rfl
    · exact ⟨h1.df, v, h4, hbk, v, cs', ty', rfl, h7, h8, h5⟩
    · exact ⟨h1.df, v, h4, hbk, v, cs', ty', rfl, h7, h8, h5⟩
end
section
variable {P : Program} {K : Kn} {w0 : World} {X : Ownr} {n : Nat} {σ : AS} {Q : Exit → AS → Prop} {ops : Array Oper}
/-- what a call of such a function leaves -/
def PCall (P : Program) (w0 : World) (X : Ownr) (n : Nat) (ops : Array Oper) (rest : List Oper) (c : PCtr) (F' : c.res.T → Frame) (F : Frame) (E : Owns) (i nx : Nat) (Q : Exit → AS → Prop) : Except Value (c.res.T × c.self.T) → Prop
  | .ok (y, x') => AL P w0 X n ops rest ⟨F' y, (i, some (.box c.self x')) :: E, nx⟩ Q
  | .error pv => ∀ x', Q (.panic [{ v := pv, recovered := false }]) ⟨F, (i, some (.box c.self x')) :: E, nx⟩
/-- as PCall, whatever follows -/
def PCallN (N : AS → Prop) (c : PCtr) (F' : c.res.T → Frame) (F : Frame) (E : Owns) (i nx : Nat) (Q : Exit → AS → Prop) : Except Value (c.res.T × c.self.T) → Prop
  | .ok (y, x') => N ⟨F' y, (i, some (.box c.self x')) :: E, nx⟩
  | .error pv => ∀ x', Q (.panic [{ v := pv, recovered := false }]) ⟨F, (i, some (.box c.self x')) :: E, nx⟩
theorem pcall_wp (hX : X.Ok w0) {o : Oper} {f : FuncId} {c : PCtr} (hc : PCtrOk P X.G f c) {args : Array Operand} {ts : Array TypeId} {a0 : Operand} {as : List Operand} (ho : o.op = .call ⟨.value (.func f), args, ts⟩) (hargs : args.toList = a0 :: as)
    {F : Frame} {E : Owns} {nx : Nat} (hσ : frzs σ as = ⟨F, E, nx⟩) {t0 : Ty} {p : OPtr t0} (hev : evO F a0 = ⟨.optr t0, p⟩) {x : c.self.T} (hbox : Owns.get E p.i = some (.box c.self x)) (hoff : p.p.off = 0) (hd : allData c.args = true) (hfl : c.res.flat = true)
    {q : List Prop} {xs : Args c.args} (hav : argsV E false (as.map (evO F)) c.args = some (q, xs)) (hq : allP q) (hpre : allP (c.pre x xs)) (hinv : ∀ w g, (w0.heap.size ≤ g ∨ X.R g) → X.G w → c.inv w g) {F' : c.res.T → Frame} (hput : ∀ y, putD n o.dst (resV c.res y) F = some (F' y))
    {N : AS → Prop} (h : PCallN N c F' F E p.i nx Q (c.out x xs)) (β : Nat → Value) (a : Act) (w : World) (hs : Sim w0 X n σ β a w) : o.wp P a w (fun a' w' => ∃ σ' β', Sim w0 X n σ' β' a' w' ∧ N σ') (fun e a' w' => e ≠ .outgrown ∧ ∃ σ' β', Sim w0 X n σ' β' a' w' ∧ Q e σ') := by
  have h1 := hs.frzs hX as
  rw [hσ] at h1
  obtain ⟨hen, hcall⟩ := hc
  have hv := h1.ops a0
  rw [show evO (AS.mk F E nx).F a0 = _ from hev] at hv
  obtain ⟨g, hg1, hg2⟩ := hv
  rw [hoff] at hg2
  obtain ⟨g', cs, ty, e1, _, e3, e4⟩ := h1.own _ _ hbox
  have hgg : g' = g := by rw [e1] at hg1; simpa [blockOf] using hg1
  subst hgg
  have hOg : OSet X E β g' := .inr ⟨_, _, hbox, by rw [e1]; rfl⟩
  have hset : (fun k => false = false ∧ OSet X E β k) = fun k => (OSet X E β k ∧ k ≠ g') ∨ k = g' := by
    funext k
    apply propext
    constructor
    · rintro ⟨_, hk⟩
      by_cases e : k = g'
      · exact .inr e
      · exact .inl ⟨hk, e⟩
    · rintro (⟨hk, _⟩ | rfl)
      · exact ⟨rfl, hk⟩
      · exact ⟨rfl, hOg⟩
  have hset2 : OSet X E β = fun k => (OSet X E β k ∧ k ≠ g') ∨ k = g' := by
    rw [← hset]
    funext k
    simp
  have hvs : RepVs w (OSet X E β) β (as.map (evO F)) (as.map a.eval) := by
    refine ⟨by simp, fun i v hv => ?_⟩
    rw [List.getElem?_map] at hv
    obtain ⟨z, hz, rfl⟩ := Option.map_eq_some_iff.1 hv
    exact ⟨a.eval z, by rw [List.getElem?_map, hz]; rfl, h1.ops z⟩
  have ha := argsV_rep (B := 0) h1.own hd hav hq hvs.2 hvs.1
  rw [hset] at ha
  rw [hset2] at e4
  have hO : ∀ k, (OSet X E β k ∧ k ≠ g') → k < w.heap.size ∧ k ≠ g' := fun k hk => ⟨h1.hO hX k hk.1, hk.2⟩
  have hnew := h1.new _ _ g' hbox (by rw [e1]; rfl)
  have hcl := hcall w _ g' cs ty _ xs _ hO e3 e4 ha hpre (hinv w g' hnew (hX.2.2 w h1.bel)) (hX.2.2 w h1.bel)
  have hargs' : (args.toList.map a.eval).toArray = (Value.pointer (some ⟨g', 0, none⟩) :: as.map a.eval).toArray := by rw [hargs, List.map_cons, hg2]
  have hrun : (execOp a.eval o).run P w = .ok (.enter f (args.toList.map a.eval).toArray) w := by
    have em : (args.toList.map a.eval).toArray = args.map a.eval ++ #[] := by
      rw [← map_toArr]
      simp
    have hx : a.eval (.func f) = .func (.func f) #[] #[] := rfl
    rw [em]
    unfold execOp
    simp [ho, resolve, invoke, Deferred.ofValue, hx, hen]
  have hwr : ∀ w' x' cs' ty', Kept (fun h => h = g') w w' → w'.heap[g']? = some (.cells (List.toArray cs') ty' (0, 0)) → RepC w' (fun h => (OSet X E β h ∧ h ≠ g') ∨ h = g') c.self x' cs' → Sim w0 X n ⟨F, (p.i, some (.box c.self x')) :: E, nx⟩ β a w' := fun w' x' cs' ty' hk hc' hrep =>
    h1.write (w' := w') (o' := .box c.self x') hbox ⟨hk.os, hk.tape, hk.output, hk.size, fun k hkl hne => hk.block k hkl fun e => hne (by rw [e1, e]; rfl)⟩ (fun _ => ⟨g', cs', ty', e1, Nat.zero_le _, hc', by rw [hset2]; exact hrep⟩) rfl
  unfold Oper.wp
  rw [hrun, hargs']
  refine hcl.mono fun e w' hr => ?_
  obtain ⟨hk, hr⟩ := hr
  revert hr h
  cases c.out x xs with
  | error pv =>
    intro h
    rintro ⟨rfl, x', cs', ty', h7, h8⟩
    exact ⟨fun e => (by cases e), _, β, hwr w' x' cs' ty' hk h7 h8, h x'⟩
  | ok r =>
    obtain ⟨y, x'⟩ := r
    intro h
    rintro ⟨v, cs', ty', rfl, h7, h8, hres⟩
    have h2 := hwr w' x' cs' ty' hk h7 h8
    refine ⟨_, β, ?_, h⟩
    have hp := hput y
    unfold putD at hp
    split at hp
    · rename_i d hdst
      split at hp <;> first | (cases hp; done) | skip
      rename_i hlt
      have hp := Option.some.inj hp
      rw [hdst, ← hp]
      exact h2.put (Below.refl _ _) (resV_rep (O' := OSet X _ β) (β := β) _ hfl hres) (resV_bound _ hfl _) (by simpa using hlt : d < n)
    · rename_i hdst
      have hp := Option.some.inj hp
      rw [hdst, ← hp]
      exact h2
theorem AL.pcall (hX : X.Ok w0) {o : Oper} {rest : List Oper} {f : FuncId} {c : PCtr} (hc : PCtrOk P X.G f c) {args : Array Operand} {ts : Array TypeId} {a0 : Operand} {as : List Operand} (ho : o.op = .call ⟨.value (.func f), args, ts⟩) (hgd : o.guard = none) (hargs : args.toList = a0 :: as)
    {F : Frame} {E : Owns} {nx : Nat} (hσ : frzs σ as = ⟨F, E, nx⟩) {t0 : Ty} {p : OPtr t0} (hev : evO F a0 = ⟨.optr t0, p⟩) {x : c.self.T} (hbox : Owns.get E p.i = some (.box c.self x)) (hoff : p.p.off = 0) (hd : allData c.args = true) (hfl : c.res.flat = true)
    {q : List Prop} {xs : Args c.args} (hav : argsV E false (as.map (evO F)) c.args = some (q, xs)) (hq : allP q) (hpre : allP (c.pre x xs)) (hinv : ∀ w g, (w0.heap.size ≤ g ∨ X.R g) → X.G w → c.inv w g) {F' : c.res.T → Frame} (hput : ∀ y, putD n o.dst (resV c.res y) F = some (F' y))
    (h : PCall P w0 X n ops rest c F' F E p.i nx Q (c.out x xs)) : AL P w0 X n ops (o :: rest) σ Q :=
  AL.hand hgd (fun c e => by rw [ho] at e; cases e) fun β a w hs => pcall_wp hX hc ho hargs hσ hev hbox hoff hd hfl hav hq hpre hinv hput (N := fun σ' => AL P w0 X n ops rest σ' Q) (by revert h; cases c.out x xs <;> exact id) β a w hs
end
end Go.Proofs.YtbbeldmcdjjnbaaDoor
