/-
  A region with one operation in its midst that is met by hand: a test against nil, a call that writes what it was handed.
-/
import Derived.Test.YthhphphdbgkdgaaDoorAbsHeap
namespace Go.Proofs.YthhphphdbgkdgaaDoor
open Go Go.RowKit
set_option linter.unusedSimpArgs false
set_option linter.unusedVariables false
section
variable {P : Program} {K : Kn} {w0 : World} {X : Ownr} {n : Nat} {σ : AS} {Q : Exit → AS → Prop}
theorem AWP.mid (hX : X.Ok w0) (hK : KnOk P X.G K) {id : Nat} {ops : Array Oper} (pre : List Oper) (o : Oper) (rest : List Oper) (hops : ops.toList = pre ++ o :: rest) (hgd : o.guard = none) {r1 : List Prop × AS} (hs : aSeq K n ops pre σ = some r1) (hp : allP r1.1)
    (hstep : ∀ β a w, Sim w0 X n r1.2 β a w → o.wp P a w (fun a' w' => ∃ σ2 β' r2, Sim w0 X n σ2 β' a' w' ∧ aSeq K n ops rest σ2 = some r2 ∧ allP r2.1 ∧ Q .normal r2.2) (fun e a' w' => e ≠ .outgrown ∧ ∃ σ' β', Sim w0 X n σ' β' a' w' ∧ Q e σ'))
    (hd1 : noDefer pre = true := by rfl) (hd2 : noDefer (o :: rest) = true := by rfl) : AWP P w0 X n (.region id ops false) σ Q := by
  intro β a w hsim
  let R : Exit → Act → World → Prop := fun e a' w' => e ≠ .outgrown ∧ ∃ σ' β', Sim w0 X n σ' β' a' w' ∧ Q e σ'
  have hno : ¬ LetsOut R := fun ⟨_, _, h, _⟩ => h rfl
  have h2 : ∀ β a w, Sim w0 X n r1.2 β a w → wpList P ops R (o :: rest) a w := fun β a w h => by
    refine wpList_plain hgd fun K' hK' => ?_
    refine Oper.wp_mono (fun a' w' ⟨σ2, β', r2, h3, h4, h5, h6⟩ => hK' a' w' ?_) (hstep β a w h)
    exact aSeq_wp hK hX rest h3 h4 h5 fun β'' a'' w'' h7 => ⟨(fun h => by cases h), r2.2, β'', h7, h6⟩
  refine Go.wpIn_mono (wpIn_region_list (Q := R) ?_) fun e a w h => h.2
  rw [hops]
  refine wpListIn_append _ _ (wpListIn_of_wpList not_lets _ hd1 (aSeq_wp hK hX pre hsim hs hp fun β' a' w' h => ⟨rfl, ?_⟩))
  exact wpListIn_of_wpList hno _ hd2 (h2 β' a' w' h)
theorem eqNil_run {w : World} {xt e : TypeId} (hu : P.underlying xt = some (.slice e)) (A : Option Addr) (l c : Nat) : ∀ d, 0 < d → (Op.equalIn d xt (.slice A l c) (.slice none 0 0)).run P w = .ok A.isNone w
  | 0, h => absurd h (Nat.lt_irrefl 0)
  | d + 1, _ => by cases A <;> simp [Op.equalIn, run_underlying hu]
theorem binNil_run {w : World} {xt e : TypeId} (hu : P.underlying xt = some (.slice e)) (A : Option Addr) (l c : Nat) : (Go.binOp .eql xt (.slice A l c) (.slice none 0 0)).run P w = .ok (.bool A.isNone) w := by
  simp only [Go.binOp, Op.equal, Op.maxDepth, Sem.run_bind, eqNil_run hu A l c 10000 (by decide), Result.andThen_ok, Sem.run_pure]
/-- a slice is compared with nil -/
theorem AWP.nilEq (hX : X.Ok w0) (hK : KnOk P X.G K) {id : Nat} {ops : Array Oper} (pre : List Oper) (o : Oper) {xt yt e : TypeId} {x : Operand} {d : Nat} {τ : Ty} {xs : List τ.T} (hops : ops.toList = pre ++ [o])
    (ho : o.op = .binOp .eql xt x (.const (.slice none 0 0)) yt) (hgd : o.guard = none) (hdst : o.dst = some d) (hd : Nat.blt d n = true) (hu : P.underlying xt = some (.slice e)) {r1 : List Prop × AS} (hs : aSeq K n ops pre σ = some r1) (hp : allP r1.1)
    (hx : evO r1.2.F x = ⟨.slice τ, xs⟩) (hq : ∀ b : Bool, (b = true → xs = []) → Q .normal ⟨(d, ⟨.bool, b⟩) :: r1.2.F, r1.2.E, r1.2.nx⟩) (hd1 : noDefer pre = true := by rfl) (hd2 : noDefer [o] = true := by rfl) : AWP P w0 X n (.region id ops false) σ Q := by
  refine AWP.mid hX hK pre o [] hops hgd hs hp (fun β a w h => ?_) hd1 hd2
  have hd' : d < n := by simpa using hd
  have hv := h.ops x
  rw [hx] at hv
  have hv : RepD w (OSet X r1.2.E β) (.slice τ) xs (a.eval x) := hv
  obtain ⟨A, l, c, hA, hE⟩ : ∃ A l c, a.eval x = .slice A l c ∧ (A = none → xs = []) := by
    have h3 : ∃ v, [a.eval x] = [v] ∧ RepS w (OSet X r1.2.E β) (RepC w (OSet X r1.2.E β) τ) xs v := hv
    obtain ⟨v, e1, h3⟩ := h3
    cases e1
    rcases h3 with ⟨h3, A, c, h4, _⟩ | ⟨g, off, c, vs, h4, _⟩
    · exact ⟨A, 0, c, h4, fun _ => h3⟩
    · exact ⟨_, _, c, h4, fun h => by cases h⟩
  have hrun : (execOp a.eval o).run P w = .ok (.value (.bool A.isNone)) w := by
    unfold execOp
    simp only [ho]
    have he : a.eval (.const (.slice none 0 0)) = .slice none 0 0 := rfl
    rw [hA, he]
    exact run_v (guard_run (fun cs h => by cases h) (fun h => by cases h) (binNil_run hu A l c))
  refine wp_run hrun ?_
  rw [hdst]
  exact ⟨_, β, ([], _), h.put (Below.refl _ _) (v := ⟨.bool, A.isNone⟩) RepV.ofBool (Nat.zero_le _) hd', rfl, trivial, hq _ fun hb => hE (by simpa using hb)⟩
end
end Go.Proofs.YthhphphdbgkdgaaDoor
