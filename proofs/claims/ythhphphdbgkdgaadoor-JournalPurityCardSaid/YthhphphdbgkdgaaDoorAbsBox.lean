/-
  A call that comes back with a structure whose one field is a slice of the caller's own. No program is read here.
-/
import Derived.Test.YthhphphdbgkdgaaDoorAbsOrd
namespace Go.Proofs.YthhphphdbgkdgaaDoor
open Go Go.RowKit
set_option linter.unusedSimpArgs false
set_option linter.unusedVariables false
/-- what such a function says -/
structure BCtr where
  args : List Ty
  pre : Args args → List Prop
  te : TypeId
  τ : Ty
  out : Args args → List τ.T
def BCtrOk (P : Program) (G : World → Prop) (f : FuncId) (c : BCtr) : Prop :=
  (∀ (as : Array Value) (w : World), (callFunc f as).run P w = .ok (.enter f as) w) ∧
  ∀ (w : World) (O : Nat → Prop) (xs : Args c.args) (vs : List Value), (∀ g, O g → g < w.heap.size) → RepA w O c.args xs vs → allP (c.pre xs) → G w →
    Calls P f vs.toArray w fun e w' => ∃ u, e = .returned (.agg #[u]) ∧ Below w.heap.size w w' ∧ OwnRep w' (fun g => O g ∨ blockOf u = some g) (fun _ => undef) w.heap.size u (.buf c.te c.τ (c.out xs))
def BCtr.ctr (c : BCtr) : Ctr := { args := c.args, pre := c.pre, res := .pair (.slice c.τ) .unit, own := none, out := fun x => (c.out x, ()) }
section
variable {P : Program} {K : Kn} {w0 w : World} {X : Ownr} {n : Nat} {σ : AS} {β : Nat → Value} {a : Act} {Q : Exit → AS → Prop} {ops : Array Oper}
theorem BCtrOk.ctr {G : World → Prop} {f : FuncId} {c : BCtr} (h : BCtrOk P G f c) : CtrOk P G f c.ctr := by
  refine ⟨h.1, fun w O xs vs hO ha hp hG => (h.2 w O xs vs hO ha hp hG).mono fun e w' ⟨u, he, hb, hr⟩ => ⟨_, he, hb, ?_⟩⟩
  have hv : RepD w' O (.slice c.τ) (c.out xs) u := hr.toView (fun g _ h => .inl h) fun g hg => hO g hg
  intro β
  exact ⟨[u], rfl, [u], [], rfl, hv, rfl⟩
theorem OwnRep.oneCell {w : World} {O : Nat → Prop} {B : Nat} {u : Value} {te : TypeId} {τ : Ty} {xs : List τ.T} (h : OwnRep w O β B u (.buf te τ xs)) : u.oneCell' = true := by
  obtain ⟨cs, _, h2, _⟩ := h
  rcases h2.2 with ⟨rfl, _⟩ | ⟨g, cap, cur, rfl, _⟩ <;> rfl
/-- the state behind such a call -/
def boxS (d : Nat) (te : TypeId) (τ : Ty) (xs : List τ.T) : AS → AS
  | ⟨F, E, nx⟩ => ⟨(d, ⟨.hcons (.obuf τ) .unit, (nx, ())⟩) :: F, (nx, some (.buf te τ xs)) :: E, nx + 1⟩
theorem call_box (hX : X.Ok w0) {f : FuncId} {c : BCtr} (hc : BCtrOk P X.G f c) {o : Oper} {args : Array Operand} {ts : Array TypeId} (ho : o.op = .call ⟨.value (.func f), args, ts⟩) {d : Nat} (hdst : o.dst = some d) (hd : Nat.blt d n = true) (hda : allData c.args = true)
    {p : List Prop} {xs : Args c.args} (harg : argsV σ.E false (args.toList.map (evO σ.F)) c.args = some (p, xs)) (hp : allP p) (hpre : allP (c.pre xs)) (h : Sim w0 X n σ β a w) {R : Exit → Act → World → Prop} {J : Act → World → Prop}
    (hI : ∀ β' a' w', Sim w0 X n (boxS d c.te c.τ (c.out xs) σ) β' a' w' → J a' w') : o.wp P a w J R := by
  have hd' : d < n := by simpa using hd
  obtain ⟨q1, q2⟩ := opArgs (F := σ.F) (O := OSet X σ.E β) (β := β) (w := w) (a := a) (x := .func f) (args := args) (ts := ts) fun y _ => h.ops y
  have ha := argsV_rep h.own hda harg hp q2 q1
  have hO : ∀ g, OSet X σ.E β g → g < w.heap.size := h.hO hX
  refine wp_enter ho hc.1 ((hc.2 w (fun g => false = false ∧ OSet X σ.E β g) xs _ (fun g h => hO g h.2) ha hpre (hX.2.2 w h.bel)).mono fun e w' ⟨u, he, hb, hr⟩ => ⟨_, he, ?_⟩)
  have hr : OwnRep w' (fun g => (false = false ∧ OSet X σ.E β g) ∨ blockOf u = some g) β w.heap.size u (.buf c.te c.τ (c.out xs)) := hr
  have hr : OwnRep w' (fun g => OSet X σ.E β g ∨ blockOf u = some g) β w.heap.size u (.buf c.te c.τ (c.out xs)) := hr.keep ⟨Nat.le_refl _, fun _ _ _ => rfl, fun g _ h => h.imp (fun h => ⟨rfl, h⟩) id⟩ fun _ _ => rfl
  rw [hdst]
  obtain ⟨β', hs⟩ := h.make hX hb (bv := u) (o := .buf c.te c.τ (c.out xs)) (v := ⟨.hcons (.obuf c.τ) .unit, (σ.nx, ())⟩) (u := .agg #[u]) (fun O β' hO => (hr.keep (O' := O) ⟨Nat.le_refl _, fun _ _ _ => rfl, fun g _ hg => hO g hg⟩ fun _ _ => rfl).base (Nat.zero_le _))
    (fun g hg => (hr.block_lt hg).1) (fun O β' hβ => ⟨u, [], rfl, hr.oneCell, hβ.symm, [], rfl, rfl⟩) (by show max (σ.nx + 1) 0 ≤ σ.nx + 1; omega) hd'
  exact hI β' _ _ hs
theorem loadAgg {τ : Ty} {t : TypeId} (h : Lay P τ (.inl t)) (ha : τ.isAgg = true) {g : Nat} {cs : List Value} (hl : cs.length = τ.size) (hc : CellsAt w g 0 cs) : (Go.loadVar t ⟨g, 0, none⟩).run P w = .ok (.agg cs.toArray) w := by
  unfold Go.loadVar
  simp only [Sem.run_bind, h.isAgg, Result.andThen_ok]
  have h2 := run_loadCells_list (P := P) w ⟨g, 0, none⟩ cs (fun j v hv => by rw [Addr.add_mid]; exact hc j v hv)
  rw [hl] at h2
  simp only [ha, if_true, Sem.run_bind, h.sizeOf, Result.andThen_ok, h2, Sem.run_pure]
theorem hload {T : Tbl} {L : List TypeId} (hT : TOk P T L) {t : TypeId} {τ τ' : Ty} (ht : tget T t = some (.pair (.slice τ) .unit)) {O : Nat → Prop} {B i g : Nat} {bv : Value} (h : OwnRep w O β B bv (.hbox [⟨.obuf τ', i⟩])) (hg : blockOf bv = some g) :
    (Go.loadVar t ⟨g, 0, none⟩).run P w = .ok (.agg #[β i]) w := by
  obtain ⟨cs, h2, h3⟩ := h.hcells hg
  obtain ⟨u, s, rfl, _, hu, hs⟩ := h2
  have hs : s = [] := hs
  have hu : u = β i := hu
  subst hs
  subst hu
  exact loadAgg (hT.lay _ _ ht) rfl rfl h3
/-- such a structure is loaded -/
theorem load_box {T : Tbl} {L : List TypeId} (hT : TOk P T L) {o : Oper} {t : TypeId} {x : Operand} (ho : o.op = .load t x) {d : Nat} (hdst : o.dst = some d) (hd : Nat.blt d n = true) {τ τ' : Ty} (ht : tget T t = some (.pair (.slice τ) .unit)) {i j : Nat} (hx : evO σ.F x = ⟨.hptr, (j, 0)⟩)
    (hj : Owns.get σ.E j = some (.hbox [⟨.obuf τ', i⟩])) {te : TypeId} {xs : List τ.T} (hi : Owns.get σ.E i = some (.buf te τ xs)) (h : Sim w0 X n σ β a w) {R : Exit → Act → World → Prop} {J : Act → World → Prop}
    (hI : ∀ a' w', Sim w0 X n ⟨(d, ⟨.hcons (.obuf τ') .unit, (i, ())⟩) :: σ.F, σ.E, σ.nx⟩ β a' w' → J a' w') : o.wp P a w J R := by
  have hd' : d < n := by simpa using hd
  have hv := h.ops x
  rw [hx] at hv
  obtain ⟨g, hg, hv⟩ : ∃ g, blockOf (β j) = some g ∧ a.eval x = .pointer (some ⟨g, 0, none⟩) := hv
  have hl := hload hT ht (h.own j _ hj) hg
  refine wp_run (u := .agg #[β i]) (w' := w) ?_ ?_
  · unfold execOp
    simp only [ho, hv]
    exact run_v (by simpa [Instr.loadAt, Instr.sureAddr] using hl)
  · rw [hdst]
    refine hI _ _ (h.put (Below.refl _ _) (v := ⟨.hcons (.obuf τ') .unit, (i, ())⟩) ⟨β i, [], rfl, (h.own i _ hi).oneCell, rfl, [], rfl, rfl⟩ ?_ hd')
    have := h.lt i _ hi
    show max (i + 1) 0 ≤ σ.nx
    omega
def DoneB (T : Tbl) (rs : List ResultVar) (σ : AS) (te : TypeId) (τ : Ty) (xs : List τ.T) : Prop := ∃ (s j i : Nat) (t : TypeId) (τ' : Ty), rs = [.cell s t] ∧ tget T t = some (.pair (.slice τ) .unit) ∧ Frame.get σ.F s = ⟨.hptr, (j, 0)⟩ ∧ Owns.get σ.E j = some (.hbox [⟨.obuf τ', i⟩]) ∧ Owns.get σ.E i = some (.buf te τ xs)
end
section
variable {P : Program} {K : Kn} {n : Nat}
/-- such a function's contract out of a walk -/
theorem bctr_of_awp {G : World → Prop} (hK : KnOk P G K) {f : FuncId} {fn : Func} {c : Code} {ctr : BCtr} (hf : P.funcs[f]? = some fn) (hb : fn.body = some c) (hn : fn.ntmps = n)
    (hen : ∀ (as : Array Value) (w : World), (callFunc f as).run P w = .ok (.enter f as) w) (hd : allData ctr.args = true) (hlen : ctr.args.length ≤ n)
    (h : ∀ (w0 : World) (X : Nat → Prop), (Ownr.plain G X).Ok w0 → ∀ xs : Args ctr.args, allP (ctr.pre xs) → AWP P w0 (Ownr.plain G X) n c (initS ctr.args xs) (fun e σ => (e = .normal ∨ e = .ret) ∧ DoneB K.T fn.results.toList σ ctr.te ctr.τ (ctr.out xs))) : BCtrOk P G f ctr := by
  refine ⟨hen, fun w O xs vs hO hrep hp hG => calls_of_wp hf hb ?_⟩
  have hvl := repA_len _ _ _ hrep
  let X : Ownr := Ownr.plain G O
  have hXR : ∀ g, ¬ X.R g := Ownr.plain_noR _ _
  have hX : X.Ok w := ⟨fun g hg => ⟨hO g hg, hXR g⟩, fun g hg => (hXR g hg).elim, fun w' hk => hK.st w w' hG (hk.below hXR)⟩
  have hsim : Sim w X n (initS ctr.args xs) (fun _ => undef) { tmps := vs.toArray ++ Array.replicate (fn.ntmps - vs.toArray.size) undef, defers := [] } w := by
    have hE : OSet X (initS ctr.args xs).E (fun _ => undef) = O := by
      funext g
      apply propext
      constructor
      · rintro (h | ⟨i, o, h, _⟩)
        · exact h
        · cases h
      · exact fun h => .inl h
    refine ⟨by simp [hn, hvl]; omega, rfl, Kept.refl _ _, fun s => ?_, fun i o h => (by cases h), fun i o g h => (by cases h), fun i j oi oj h => (by cases h), fun i o h => (by cases h), ⟨Nat.zero_le _, fun i h => (by cases h)⟩, fun s => ?_, fun i o h => (by cases h)⟩
    · rw [hE]
      have := initF_rep (β := fun _ => undef) ctr.args xs vs [] (List.replicate (fn.ntmps - vs.length) undef) hd hrep s
      simp only [List.nil_append, List.length_nil] at this
      have e : (vs.toArray ++ Array.replicate (fn.ntmps - vs.toArray.size) undef) = (vs ++ List.replicate (fn.ntmps - vs.length) undef).toArray := by simp
      show RepV w O _ _ _ ((vs.toArray ++ Array.replicate (fn.ntmps - vs.toArray.size) undef).getD s undef)
      rw [e]
      exact this
    · show (Frame.get (initF ctr.args xs 0) s).bound ≤ 0
      rw [initF_bound _ _ _ _ hd]
      exact Nat.le_refl _
  refine wp_mono (wpIn_wide.1 (h w O hX xs hp _ _ _ hsim)) fun e a' w' ⟨σ', β', h1, h2, h3⟩ => ?_
  obtain ⟨s, j, i, t, τ', hr, ht, hs, hj, hi⟩ := h3
  have hf1 := h1.fr s
  rw [hs] at hf1
  obtain ⟨g, hg, hf1⟩ : ∃ g, blockOf (β' j) = some g ∧ a'.tmps.getD s undef = .pointer (some ⟨g, 0, none⟩) := hf1
  have hl := hload hK.t ht (h1.own j _ hj) hg
  obtain ⟨u, hu2⟩ : ∃ u, u = β' i := ⟨_, rfl⟩
  rw [← hu2] at hl
  have hbel := h1.bel.below hXR
  have hres : (results fn a'.tmps).run P w' = .ok (.agg #[u]) w' := by
    have hm : (fn.results.mapM (resM a'.tmps)).run P w' = .ok #[.agg #[u]] w' := by
      rw [Array.mapM_eq_mapM_toList, hr]
      simp [resM, hf1, asAddr, hl]
    rw [results_eq, Sem.run_bind, hm]
    simp
  have hown : OwnRep w' (fun g => O g ∨ blockOf u = some g) (fun _ => undef) w.heap.size u (.buf ctr.te ctr.τ (ctr.out xs)) := by
    rw [hu2]
    have h4 : OwnRep w' (fun g => O g ∨ blockOf (β' i) = some g) β' w.heap.size (β' i) (.buf ctr.te ctr.τ (ctr.out xs)) := by
      refine OwnRep.keep (OwnRep.raise (h1.own i _ hi) fun g hg => ?_) ⟨Nat.le_refl _, fun _ _ _ => rfl, fun g _ hg => hg.imp id fun hg => ⟨i, _, hi, hg⟩⟩ fun _ _ => rfl
      rcases h1.new i _ g hi hg with h4 | h4
      · exact h4
      · exact (hXR g h4).elim
    exact h4
  rcases h2 with rfl | rfl
  · exact ⟨h1.df, _, hres, u, rfl, hbel, hown⟩
  · exact ⟨h1.df, _, hres, u, rfl, hbel, hown⟩
end
end Go.Proofs.YthhphphdbgkdgaaDoor
