/-
  Contracts of functions on typed plain values; operations with calls. A store into something of the call's own. No program is read here.
-/
import Derived.Test.YtpepbnieocdpbaaDoorAbsMut
namespace Go.Proofs.YtpepbnieocdpbaaDoor
open Go Go.RowKit
set_option linter.unusedSimpArgs false
set_option linter.unusedVariables false

@[reducible] def Args : List Ty → Type
  | [] => Unit
  | t :: r => t.T × Args r
def RepA (w : World) (O : Nat → Prop) : (ts : List Ty) → Args ts → List Value → Prop
  | [], _, vs => vs = []
  | t :: r, x, vs => ∃ v s, vs = v :: s ∧ RepD w O t x.1 v ∧ RepA w O r x.2 s
/-- what a call comes back with: a value, or a slice in new memory that nobody else holds -/
def ResRel (w : World) (O : Nat → Prop) (B : Nat) (own : Option TypeId) : (t : Ty) → t.T → Value → Prop
  | .slice τ, xs, v => match own with
    | some te => OwnRep w (fun g => O g ∨ blockOf v = some g) B v (.buf te τ xs)
    | none => RepD w O (.slice τ) xs v
  | t, x, v => ∀ β, RepV w O β t x v
structure Ctr where
  args : List Ty
  pre : Args args → List Prop
  res : Ty
  own : Option TypeId
  out : Args args → res.T
def CtrOk (P : Program) (G : World → Prop) (f : FuncId) (c : Ctr) : Prop :=
  (∀ (as : Array Value) (w : World), (callFunc f as).run P w = .ok (.enter f as) w) ∧
  ∀ (w : World) (O : Nat → Prop) (xs : Args c.args) (vs : List Value), (∀ g, O g → g < w.heap.size) → RepA w O c.args xs vs → allP (c.pre xs) → G w →
    Calls P f vs.toArray w fun e w' => ∃ v, e = .returned v ∧ Below w.heap.size w w' ∧ ResRel w' O w.heap.size c.own c.res (c.out xs) v
abbrev Ctrs := List (FuncId × Ctr)
def cget : List (FuncId × Ctr) → FuncId → Option Ctr
  | [], _ => none
  | (g, c) :: r, f => bif Nat.beq g f then some c else cget r f
def CsOk (P : Program) (G : World → Prop) (C : Ctrs) : Prop := ∀ f c, cget C f = some c → CtrOk P G f c

def Ty.flat : Ty → Bool
  | .bool | .int _ | .str | .unit => true
  | .pair a b => a.flat && b.flat
  | .arr _ t => t.flat
  | .tup a b => a.flat && b.flat
  | _ => false
def argsV (E : Owns) (fl : Bool) : List V → (ts : List Ty) → Option (List Prop × Args ts)
  | [], [] => some ([], ())
  | v :: vs, t :: ts =>
    match coe t (bif fl then dat E (strip v).2 else (strip v).2), argsV E fl vs ts with
    | some x, some (p, xs) => some ((strip v).1 ++ p, (x, xs))
    | _, _ => none
  | _, _ => none
def Ctr.fl (c : Ctr) : Bool := c.res.flat
def allData : List Ty → Bool
  | [] => true
  | t :: r => t.data && allData r
/-- a call by its contract -/
def callV (C : Ctrs) (E : Owns) (f : FuncId) (vs : List V) : Option (List Prop × (c : Ctr) × Args c.args) :=
  match cget C f with
  | some c => if allData c.args then (match argsV E c.fl vs c.args with | some ([], xs) => some (c.pre xs, ⟨c, xs⟩) | some (p :: q, xs) => some (p :: q ++ c.pre xs, ⟨c, xs⟩) | none => none) else none
  | none => none
/-- operations that read, compute, call -/
noncomputable def cOp (T : Tbl) (Q : List TypeId) (C : Ctrs) (E : Owns) (F : Frame) (op : Op) : Res :=
  match op with
  | .call ⟨.value (.func f), args, _⟩ => match callV C E f (args.toList.map (evO F)) with
    | some (p, ⟨c, xs⟩) => match c.own with
      | none => some (p, ⟨c.res, c.out xs⟩)
      | some _ => match c.res, c.out xs with
        | .slice τ, ys => some (p, ⟨.slice τ, ys⟩)
        | _, _ => none
    | none => none
  | op => pOp T Q E F op

section
variable {P : Program} {w w' : World} {O O' : Nat → Prop} {β : Nat → Value} {T : Tbl} {Q : List TypeId} {C : Ctrs} {E : Owns} {F : Frame} {B : Nat} {a : Act}

theorem repC_flat : ∀ (t : Ty), t.flat = true → ∀ (x : t.T) (cs : List Value), RepC w O t x cs → RepC w' O' t x cs := by
  intro t
  induction t with
  | pair a b iha ihb =>
    intro h x cs
    simp only [Ty.flat, Bool.and_eq_true] at h
    rintro ⟨c1, c2, h0, h1, h2⟩
    exact ⟨c1, c2, h0, iha h.1 _ _ h1, ihb h.2 _ _ h2⟩
  | arr n t ih =>
    intro h x cs
    rintro ⟨h1, h2⟩
    exact ⟨h1, h2.mono fun x _ c => ih h x c⟩
  | bool => intro _ x cs h; exact h
  | int => intro _ x cs h; exact h
  | str => intro _ x cs h; exact h
  | unit => intro _ x cs h; exact h
  | tup => intro _ x cs h; exact absurd h (by simp [RepC])
  | _ => intro h; cases h
theorem repD_flat {t : Ty} (ht : t.flat = true) {x : t.T} {v : Value} (h : RepD w O t x v) : RepD w' O' t x v := by
  unfold RepD at *
  split at h
  · rename_i hd
    rw [if_pos hd]
    obtain ⟨cs, h1, h2⟩ := h
    exact ⟨cs, h1, repC_flat t ht _ _ h2⟩
  · rename_i hd
    rw [if_neg hd]
    exact repC_flat t ht _ _ h
theorem repTup_flat : ∀ (t : Ty), t.flat = true → ∀ (x : t.T) (vs : List Value), RepTup w O t x vs → RepTup w' O' t x vs := by
  intro t
  induction t with
  | tup a b iha ihb =>
    intro h x vs
    simp only [Ty.flat, Bool.and_eq_true] at h
    rintro ⟨v, r, h0, h1, h2⟩
    exact ⟨v, r, h0, repD_flat h.1 h1, ihb h.2 _ _ h2⟩
  | unit => intro _ x vs h; exact h
  | _ => intro _ x vs h; exact absurd h (by simp [RepTup])
theorem repV_flat {t : Ty} (ht : t.flat = true) {x : t.T} {v : Value} (h : RepV w O β t x v) : RepV w' O' β t x v := by
  cases t <;> first
    | exact repD_flat ht h
    | (cases ht; done)
    | (obtain ⟨vs, h1, h2⟩ := h; exact ⟨vs, h1, repTup_flat _ ht _ _ h2⟩)
theorem argsV_rep (hown : ∀ i o, Owns.get E i = some o → OwnRep w O B (β i) o) {fl : Bool} : ∀ {vs : List V} {ts : List Ty} {r : List Prop × Args ts} {us : List Value}, allData ts = true → argsV E fl vs ts = some r → allP r.1 →
    (∀ (i : Nat) (v : V), vs[i]? = some v → ∃ u, us[i]? = some u ∧ RepV w O β v.t v.x u) → us.length = vs.length → RepA w (fun g => fl = false ∧ O g) ts r.2 us
  | [], [], r, us, _, h, _, _, hl => List.eq_nil_of_length_eq_zero hl
  | v :: vs, t :: ts, r, us, hd, h, hp, hu, hl => by
    simp only [argsV] at h
    split at h
    · rename_i x p' xs' hc hr
      cases h
      simp only [allP_append] at hp
      simp only [allData, Bool.and_eq_true] at hd
      match us, hl with
      | u :: us, hl =>
        refine ⟨u, us, rfl, ?_, argsV_rep hown hd.2 hr hp.2 (fun i v hv => hu (i + 1) v hv) (by simpa using hl)⟩
        obtain ⟨u', hu', hrep⟩ := hu 0 v rfl
        cases hu'
        have h1 := strip_rep hrep hp.1
        cases fl with
        | true =>
          have := coe_rep hd.1 hc (dat_rep hown h1)
          exact this.keep ⟨Nat.le_refl _, fun _ _ _ => rfl, fun g _ h => by simp at h⟩
        | false =>
          have := coe_rep hd.1 hc h1
          exact this.keep ⟨Nat.le_refl _, fun _ _ _ => rfl, fun g _ h => h.2⟩
    · cases h
  | [], _ :: _, _, _, _, h, _, _, _ => by cases h
  | _ :: _, [], _, _, _, h, _, _, _ => by cases h
theorem resRel_repV : ∀ (t : Ty) (x : t.T) (v : Value), ResRel w O B none t x v → RepV w O β t x v := by
  intro t
  cases t <;> intro x v h <;> first | exact h β | exact repD_repV h
/-- a call of a Go function -/
theorem wp_enter {o : Oper} {f : FuncId} {args : Array Operand} {ts : Array TypeId} {K : Act → World → Prop} {R : Exit → Act → World → Prop} (ho : o.op = .call ⟨.value (.func f), args, ts⟩) (hen : ∀ (as : Array Value) (w : World), (callFunc f as).run P w = .ok (.enter f as) w)
    (h : Calls P f (args.toList.map a.eval).toArray w fun e w' => ∃ v, e = .returned v ∧ K (a.put o.dst v) w') : o.wp P a w K R := by
  unfold Oper.wp
  rw [map_toArr] at h
  have e : (execOp a.eval o).run P w = .ok (.enter f (args.map a.eval)) w := by
    unfold execOp
    simp [ho, resolve, invoke, Deferred.ofValue, Act.eval, hen]
  rw [e]
  show Calls P f (args.map a.eval) w _
  refine h.mono fun e w' ⟨v, he, hk⟩ => ?_
  subst he
  exact hk
theorem opArgs {f : FuncId} {args : Array Operand} {ts : Array TypeId} (hops : ∀ x ∈ (Op.call ⟨.value (.func f), args, ts⟩).operands, RepV w O β (evO F x).t (evO F x).x (a.eval x)) :
    ∀ (i : Nat) (v : V), (args.toList.map (evO F))[i]? = some v → ∃ u, (args.toList.map a.eval)[i]? = some u ∧ RepV w O β v.t v.x u := by
  intro i v hv
  rw [List.getElem?_map] at hv
  obtain ⟨x, hx, rfl⟩ := Option.map_eq_some_iff.1 hv
  have hm : x ∈ args.toList := List.mem_of_getElem? hx
  exact ⟨a.eval x, by rw [List.getElem?_map, hx]; rfl, hops x (by simp [Op.operands, Call.operands]; exact .inr (by simpa using hm))⟩
/-- a call by its contract: the result as the contract says -/
theorem callV_wp {G : World → Prop} (hC : CsOk P G C) (hG : G w) (hO : ∀ g, O g → g < w.heap.size) (hown : ∀ i o, Owns.get E i = some o → OwnRep w O B (β i) o) {o : Oper} {f : FuncId} {args : Array Operand} {ts : Array TypeId} (ho : o.op = .call ⟨.value (.func f), args, ts⟩)
    {r : List Prop × (c : Ctr) × Args c.args} (h : callV C E f (args.toList.map (evO F)) = some r) (hp : allP r.1) (hops : ∀ x ∈ o.op.operands, RepV w O β (evO F x).t (evO F x).x (a.eval x)) {K : Act → World → Prop} {R : Exit → Act → World → Prop}
    (hK : ∀ v w', Below w.heap.size w w' → ResRel w' (fun g => r.2.1.fl = false ∧ O g) w.heap.size r.2.1.own r.2.1.res (r.2.1.out r.2.2) v → K (a.put o.dst v) w') : o.wp P a w K R := by
  unfold callV at h
  split at h
  · rename_i c hc
    split at h
    · rename_i hd
      obtain ⟨p, xs, h1, h⟩ : ∃ p xs, argsV E c.fl (args.toList.map (evO F)) c.args = some (p, xs) ∧ (p ++ c.pre xs, (⟨c, xs⟩ : (c : Ctr) × Args c.args)) = r := by
        split at h <;> first | (cases h; done) | skip
        · rename_i xs h1; cases h; exact ⟨_, _, h1, rfl⟩
        · rename_i p q xs h1; cases h; exact ⟨_, _, h1, rfl⟩
      subst h
      simp only [allP_append] at hp
      rw [ho] at hops
      have ha := argsV_rep hown hd h1 hp.1 (opArgs hops) (by simp)
      obtain ⟨hen, hcall⟩ := hC f c hc
      refine wp_enter ho hen ((hcall w (fun g => c.fl = false ∧ O g) xs _ (fun g h => hO g h.2) ha hp.2 hG).mono fun e w' ⟨v, he, hb, hr⟩ => ⟨v, he, hK v w' hb hr⟩)
    · cases h
  · cases h
theorem OwnRep.toView {bv : Value} {te : TypeId} {τ : Ty} {xs : List τ.T} {O2 : Nat → Prop} (h : OwnRep w' O' B bv (.buf te τ xs)) (hO2 : ∀ g, g < w'.heap.size → O2 g → O' g) (hlt : ∀ g, O2 g → g < B) : RepD w' O2 (.slice τ) xs bv :=
  h.view hO2 fun g hg hg' => by
    have := (h.block_lt hg).1
    have := hlt g hg'
    omega
theorem cOp_wp (hT : TOk P T Q) {G : World → Prop} (hC : CsOk P G C) (hG : G w) (hO : ∀ g, O g → g < w.heap.size) (hown : ∀ i o, Owns.get E i = some o → OwnRep w O B (β i) o) {o : Oper} {r : List Prop × V} (h : cOp T Q C E F o.op = some r) (hp : allP r.1)
    (hops : ∀ x ∈ o.op.operands, RepV w O β (evO F x).t (evO F x).x (a.eval x)) {K : Act → World → Prop} {R : Exit → Act → World → Prop}
    (hK : ∀ u w', Below w.heap.size w w' → RepV w' O β r.2.t r.2.x u → K (a.put o.dst u) w') : o.wp P a w K R := by
  have plain : pOp T Q E F o.op = some r → o.wp P a w K R := fun h => by
    obtain ⟨u, w', h1, h2, h3⟩ := pOp_yields hT hO hown h hp hops
    unfold Oper.wp
    rw [h1]
    exact hK u w' h2 h3
  generalize hop : o.op = op at h
  unfold cOp at h
  split at h
  · rename_i f args ts
    split at h <;> first | (cases h; done) | skip
    rename_i p c xs h1
    have h2 := h
    split at h2
    · rename_i hown0
      cases h2
      refine callV_wp hC hG hO hown hop h1 hp hops fun v w' hb hr => hK v w' hb ?_
      simp only [hown0] at hr
      have hr' : RepV w' (fun g => c.fl = false ∧ O g) β c.res (c.out xs) v := resRel_repV _ _ _ hr
      cases hfl : c.fl with
      | true => exact repV_flat hfl hr'
      | false =>
        rw [hfl] at hr'
        exact RepV.keep ⟨Nat.le_refl _, fun _ _ _ => rfl, fun g _ h => ⟨rfl, h⟩⟩ _ _ _ hr'
    · rename_i te hown0
      split at h2
      · rename_i τ ys hres hout
        cases h2
        have hnf : c.fl = false := by unfold Ctr.fl; rw [hres]; rfl
        refine callV_wp hC hG hO hown hop h1 hp hops fun v w' hb hr => hK v w' hb ?_
        simp only [hown0] at hr
        have hr' : OwnRep w' (fun g => (c.fl = false ∧ O g) ∨ blockOf v = some g) w.heap.size v (.buf te τ ys) := by
          revert hr
          generalize c.out xs = x at hout ⊢
          revert x
          rw [hres]
          intro x hx hr
          cases hx
          exact hr
        exact repD_repV (hr'.toView (fun g _ h => .inl ⟨hnf, h⟩) fun g h => hO g h)
      · cases h2
  · exact plain (by rw [hop]; exact h)
end
end Go.Proofs.YtpepbnieocdpbaaDoor
