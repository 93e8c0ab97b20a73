/-
  The statement that nothing is changed and all is new: steps by hand.
-/
import Derived.Test.YthhphphdbgkdgaaDoorJNew
import Derived.Test.YthhphphdbgkdgaaDoorJLawC
namespace Go.Proofs.YthhphphdbgkdgaaDoor
open Go Go.RowKit
set_option linter.unusedSimpArgs false
set_option linter.unusedVariables false
set_option maxRecDepth 100000
/-- slots without handles, as they stand in this world -/
structure Hd (n : Nat) (F : Frame) (a : Act) (w : World) : Prop where
  sz : a.tmps.size = n
  df : a.defers = []
  fr : ∀ s, RepV w noO (fun _ => undef) (Frame.get F s).t (Frame.get F s).x (a.tmps.getD s undef)
section
variable {P : Program} {n : Nat} {F : Frame} {a : Act} {w : World} {ops : Array Oper} {R : Exit → Act → World → Prop}
abbrev LI (P : Program) (ops : Array Oper) (R : Exit → Act → World → Prop) (l : List Oper) (a : Act) (w : World) : Prop := wpListIn (wideR none) 0 P ops R l a w
theorem Hd.grow {w' : World} (h : Hd n F a w) (hb : Below w.heap.size w w') : Hd n F a w' :=
  ⟨h.sz, h.df, fun s => RepV.keep (.of_below hb fun _ _ h => h) _ _ _ (h.fr s)⟩
theorem Hd.lit (h : Hd n F a w) {d : Nat} (hd : Nat.blt d n = true) (u : Value) : Hd n ((d, ⟨.lit, u⟩) :: F) (a.put (some d) u) w := by
  have hd' : d < n := by simpa using hd
  refine ⟨by rw [Act.put_size]; exact h.sz, by rw [Act.put_defers]; exact h.df, fun s => ?_⟩
  rw [Act.put_get (by rw [h.sz]; exact hd'), Frame.get_cons]
  by_cases e : d = s
  · rw [if_pos e, if_pos e]; rfl
  · rw [if_neg e, if_neg e]; exact h.fr s
theorem Hd.sub (h : Hd n F a w) {F' : List (Nat × V)} (hF : Sub F F') : Hd n F' a w :=
  ⟨h.sz, h.df, fun s => by
    rcases hF.get s with e | e
    · rw [e]; exact h.fr s
    · rw [e]; trivial⟩
theorem Hd.val (h : Hd n F a w) {s : Nat} {u : Value} (hs : Frame.get F s = ⟨.lit, u⟩) : a.tmps.getD s undef = u := by
  have := h.fr s
  rw [hs] at this
  exact this
theorem Hd.sim (h : Hd n F a w) (hb : bndB 0 F = true) : Sim w (Ownr.plain dG noO) n ⟨F, [], 0⟩ (fun _ => undef) a w := Sim.fresh rfl h.sz h.df h.fr hb
theorem Hd.of {X : Ownr} {σ : AS} {β : Nat → Value} {w0 : World} (h : Sim w0 X n σ β a w) (hX : X.D = []) {F' : List (Nat × V)} (hF : Sub σ.F F') (hd : (F'.all fun q => dF q.2) = true) : Hd n F' a w :=
  ⟨h.sz, by rw [h.df, hX], fun s => by
    have h1 := (h.weaken hF.get).fr s
    refine dF_rep (dF_all hd s) (RepV.keep ⟨Nat.le_refl _, fun _ _ _ => rfl, fun _ _ h => h.elim⟩ _ _ _ h1)⟩
theorem LI.one {o : Oper} {l : List Oper} (h : wpList P ops (fun e a w => e = .normal ∧ LI P ops R l a w) [o] a w) (hd : noDefer [o] = true := by rfl) : LI P ops R (o :: l) a w :=
  wpListIn_append [o] l (wpListIn_of_wpList (ρ := none) not_lets _ hd h)
theorem LI.app {l r : List Oper} (h : wpList P ops (fun e a w => e = .normal ∧ LI P ops R r a w) l a w) (hd : noDefer l = true := by rfl) : LI P ops R (l ++ r) a w :=
  wpListIn_append l r (wpListIn_of_wpList (ρ := none) not_lets _ hd h)
/-- an operation whose value is known -/
theorem Hd.step (h : Hd n F a w) {o : Oper} {l : List Oper} {d : Nat} {u : Value} (hg : o.guard = none) (hdst : o.dst = some d) (hd : Nat.blt d n = true) (hr : (execOp a.eval o).run P w = .ok (.value u) w) (hn : ∀ a', Hd n ((d, ⟨.lit, u⟩) :: F) a' w → LI P ops R l a' w) (hnd : noDefer [o] = true := by rfl) : LI P ops R (o :: l) a w := by
  refine LI.one (wpList_one hg hr ?_) hnd
  rw [hdst]
  exact ⟨rfl, hn _ (h.lit hd u)⟩
/-- a call -/
theorem Hd.call (h : Hd n F a w) {o : Oper} {l : List Oper} {d : Nat} {f : FuncId} {args : Array Operand} {ts : Array TypeId} (hop : o.op = .call ⟨.value (.func f), args, ts⟩) (hg : o.guard = none) (hdst : o.dst = some d) (hd : Nat.blt d n = true) (hen : ∀ (ar : Array Value) (w : World), (callFunc f ar).run P w = .ok (.enter f ar) w)
    {Φ : Value → World → Prop} (hc : Calls P f (args.toList.map a.eval).toArray w fun e w' => ∃ v, e = .returned v ∧ Below w.heap.size w w' ∧ Φ v w') (hn : ∀ a' v w', Below w.heap.size w w' → Φ v w' → Hd n ((d, ⟨.lit, v⟩) :: F) a' w' → LI P ops R l a' w') (hnd : noDefer [o] = true := by rfl) : LI P ops R (o :: l) a w := by
  refine LI.one ?_ hnd
  simp only [wpList, wpOp, Region.wanted, hg, if_true]
  refine .inl (wp_enter hop hen (hc.mono fun e w' ⟨v, he, hb, hf⟩ => ⟨v, he, ?_⟩))
  rw [hdst]
  exact ⟨trivial, hn _ v w' hb hf ((h.grow hb).lit hd v)⟩
/-- the engine goes on -/
theorem Hd.eng {K : Kn} (hK : KnOk P dG K) (hG : dG w) (h : Hd n F a w) (hb : bndB 0 F = true) {l r : List Oper} {s : List Prop × AS} (hs : aSeq K n ops l ⟨F, [], 0⟩ = some s) (hp : allP s.1) (hn : ∀ β a' w', Below w.heap.size w w' → Sim w (Ownr.plain dG noO) n s.2 β a' w' → LI P ops R r a' w') (hnd : noDefer l = true := by rfl) : LI P ops R (l ++ r) a w := by
  have hX : (Ownr.plain dG noO).Ok w := logOk hG
  exact LI.app (aSeq_wp hK hX l (h.sim hb) hs hp fun β a' w' hs' => ⟨rfl, hn β a' w' (hs'.bel.below (Ownr.plain_noR _ _)) hs'⟩) hnd
theorem region_then {id : Nat} {y : Code} (h : LI P ops (fun e a w => e = .normal ∧ y.wpIn (wideR none) 0 P R a w) ops.toList a w) : (Code.seq (.region id ops false) y).wpIn (wideR none) 0 P R a w :=
  wpIn_seq (Go.wpIn_mono (wpIn_region_list h) fun e a w ⟨he, h2⟩ => by subst he; exact h2)
theorem ext_run {o : Oper} {x : Operand} {k : Nat} {vs : Array Value} {u : Value} (h : o.op = .extract x k) (hx : a.eval x = .tuple vs) (hk : vs[k]? = some u) : (execOp a.eval o).run P w = .ok (.value u) w := by
  unfold execOp
  simp only [h, hx]
  simp [Instr.extract, hk]
theorem move_run {o : Oper} {x : Operand} {u : Value} (h : o.op = .move x) (hx : a.eval x = u) : (execOp a.eval o).run P w = .ok (.value u) w := by
  unfold execOp
  simp only [h]
  rw [hx]
  rfl
theorem load_run {o : Oper} {t : TypeId} {x : Operand} {A : Addr} {u : Value} (h : o.op = .load t x) (hx : a.eval x = .pointer (some A)) (hl : (Go.loadVar t A).run P w = .ok u w) : (execOp a.eval o).run P w = .ok (.value u) w := by
  unfold execOp
  simp only [h, hx]
  exact run_v (by simpa [Instr.loadAt, Instr.sureAddr] using hl)
end
/-- a log is computed, taken apart, kept in a variable -/
theorem logStage {F : List (Nat × V)} {a : Act} {w : World} {ops : Array Oper} {R : Exit → Act → World → Prop} (hG : dG w) (h : Hd 109 F a w) (hbF : bndB 0 F = true) {oc om o0 o1 : Oper} {l3 : List Oper} {f : FuncId} {args : Array Operand} {ts : Array TypeId} {c m e0 e1 b : Nat} {xs : List UInt8}
    (hop : oc.op = .call ⟨.value (.func f), args, ts⟩) (hcg : oc.guard = none) (hcd : oc.dst = some c) (hen : ∀ (ar : Array Value) (w : World), (callFunc f ar).run Tryd.prog w = .ok (.enter f ar) w) (hcall : Calls Tryd.prog f (args.toList.map a.eval).toArray w (LogE w xs))
    (hmo : om.op = .move (.tmp c)) (hmg : om.guard = none) (hmd : om.dst = some m) (h0 : o0.op = .extract (.tmp m) 0) (h0g : o0.guard = none) (h0d : o0.dst = some e0) (h1 : o1.op = .extract (.tmp m) 1) (h1g : o1.guard = none) (h1d : o1.dst = some e1)
    (hlt : (Nat.blt c 109 && Nat.blt m 109 && Nat.blt e0 109 && Nat.blt e1 109) = true) (hne : m ≠ e0)
    (hrest : ∀ (A : Option Addr) (k cp : Nat) (z : Int) (y t : Value), ∃ s, aSeq kCn 109 ops l3 ⟨(e1, ⟨.lit, y⟩) :: (e0, ⟨.lit, .agg #[.slice A k cp, .int .i64 z]⟩) :: (m, ⟨.lit, t⟩) :: (c, ⟨.lit, t⟩) :: F, [], 0⟩ = some s ∧ allP s.1 ∧ Frame.get s.2.F b = ⟨.hptr, (0, 0)⟩ ∧ Owns.get s.2.E 0 = some (.hbox [⟨.lit, .slice A k cp⟩, ⟨i64, z⟩]) ∧ Sub s.2.F F)
    (hdF : (F.all fun q => dF q.2) = true) (hbF2 : hasN (F.map (·.1)) b = false)
    (hn : ∀ a' w' g u z, Below w.heap.size w w' → Lives w w' u → RepS w' noO (RepC w' noO u8) xs u → CellsAt w' g 0 [u, .int .i64 z] → Hd 109 ((b, ⟨.lit, .pointer (some ⟨g, 0, none⟩)⟩) :: F) a' w' → R .normal a' w') (hnd : noDefer l3 = true := by rfl) (hnc : noDefer [oc] = true := by rfl) (hnm : noDefer [om] = true := by rfl) (hn0 : noDefer [o0] = true := by rfl) (hn1 : noDefer [o1] = true := by rfl) : LI Tryd.prog ops R (oc :: om :: o0 :: o1 :: l3) a w := by
  simp only [Bool.and_eq_true] at hlt
  obtain ⟨⟨⟨lc, lm⟩, l0⟩, l1⟩ := hlt
  refine h.call hop hcg hcd lc hen (Φ := fun v w' => ∃ u z k, v = .tuple #[.agg #[u, .int .i64 z], k] ∧ Lives w w' u ∧ RepS w' noO (RepC w' noO u8) xs u) (hcall.mono fun e w' ⟨u, z, k, he, hb, h1, h2⟩ => ⟨_, he, hb, u, z, k, rfl, h1, h2⟩) (fun a1 v w1 hb1 hΦ hd1 => ?_) hnc
  obtain ⟨u, z, k, rfl, hlv, hxs⟩ := hΦ
  refine hd1.step hmg hmd lm (move_run hmo (hd1.val (s := c) (by rw [Frame.get_cons, if_pos rfl]))) (fun a2 hd2 => ?_) hnm
  have hv2 : a2.eval (.tmp m) = .tuple #[.agg #[u, .int .i64 z], k] := hd2.val (s := m) (by rw [Frame.get_cons, if_pos rfl])
  refine hd2.step h0g h0d l0 (ext_run h0 hv2 rfl) (fun a3 hd3 => ?_) hn0
  have hv3 : a3.eval (.tmp m) = .tuple #[.agg #[u, .int .i64 z], k] := hd3.val (s := m) (by rw [Frame.get_cons, if_neg (Ne.symm hne), Frame.get_cons, if_pos rfl])
  refine hd3.step h1g h1d l1 (ext_run h1 hv3 rfl) (fun a4 hd4 => ?_) hn1
  obtain ⟨A, kk, cp, rfl⟩ : ∃ A kk cp, u = .slice A kk cp := by
    rcases hxs with ⟨_, A, c, e, _⟩ | ⟨g, off, c, vs, e, _⟩
    · exact ⟨A, 0, c, e⟩
    · exact ⟨_, _, _, e⟩
  obtain ⟨s, s1, s2, s3, s4, s5⟩ := hrest A kk cp z k (.tuple #[.agg #[.slice A kk cp, .int .i64 z], k])
  rw [← List.append_nil l3]
  refine hd4.eng kCn_ok (dK_ok.st w w1 hG hb1) hbF s1 s2 (fun β a5 w5 hb5 hs5 => ?_) hnd
  have hb15 : Below w.heap.size w w5 := hb1.trans (hb5.mono hb1.size)
  have hp := hs5.fr b
  rw [s3] at hp
  obtain ⟨g, hg1, hg2⟩ : ∃ g, blockOf (β 0) = some g ∧ a5.tmps.getD b undef = .pointer (some ⟨g, 0, none⟩) := hp
  obtain ⟨cs, hc1, hc2⟩ := (hs5.own 0 _ s4).hcells hg1
  obtain ⟨u', r', rfl, _, hu, v', r2, rfl, _, hv', hr2⟩ := hc1
  have hr2 : r2 = [] := hr2
  have hu : u' = .slice A kk cp := hu
  have hv' : v' = .int .i64 z := RepV.int hv'
  subst hr2 hu hv'
  refine hn a5 w5 g _ z hb15 ?_ ?_ hc2 ?_
  · rcases hlv with h9 | ⟨te, h9⟩
    · exact .inl h9
    · exact .inr ⟨te, h9.grow (hb5.mono hb1.size |> fun h => ⟨hb5.os, hb5.tape, hb5.output, hb5.size, hb5.block⟩)⟩
  · exact hxs.keep (.of_below hb5 fun _ _ h => h) fun x c => RepC.keep (.of_below hb5 fun _ _ h => h) _ _ _
  · have h9 := hs5.litAt b
    rw [hg2] at h9
    refine Hd.of h9 rfl ⟨by rw [Frame.get_cons, if_pos rfl], ?_⟩ (by rw [List.all_cons, hdF]; rfl)
    have key : ∀ (F' : List (Nat × V)), hasN (F'.map (·.1)) b = false → Sub s.2.F F' → Sub ((b, ⟨.lit, .pointer (some ⟨g, 0, none⟩)⟩) :: s.2.F) F' := by
      intro F'
      induction F' with
      | nil => intro _ _; trivial
      | cons q F' ih =>
        intro h1 h2
        obtain ⟨t, v⟩ := q
        simp only [List.map_cons, hasN] at h1
        have hb9 : Nat.beq t b = false := by
          cases hh : Nat.beq t b with
          | true => rw [hh] at h1; cases h1
          | false => rfl
        rw [hb9] at h1
        refine ⟨?_, ih h1 h2.2⟩
        rw [Frame.get_cons, if_neg (fun e => by rw [e] at hb9; simp at hb9)]
        exact h2.1
    exact key F hbF2 s5
/-! ### more steps -/
/-- slots that say the same in each world -/
def litF : V → Bool
  | ⟨.lit, _⟩ => true
  | ⟨.junk, _⟩ => true
  | ⟨t, _⟩ => t.flat
theorem litF_rep {O O' : Nat → Prop} {β : Nat → Value} {w w' : World} {v : V} {u : Value} (h : litF v = true) (hr : RepV w O β v.t v.x u) : RepV w' O' β v.t v.x u := by
  obtain ⟨t, x⟩ := v
  cases t <;> first
    | exact hr
    | (cases h; done)
    | exact repV_flat h hr
theorem litF_all {F : List (Nat × V)} (h : (F.all fun q => litF q.2) = true) (s : Nat) : litF (Frame.get F s) = true := by
  induction F with
  | nil => rfl
  | cons q F ih =>
    rw [List.all_cons, Bool.and_eq_true] at h
    obtain ⟨t, v⟩ := q
    rw [Frame.get_cons]
    split
    · exact h.1
    · exact ih h.2
section
variable {P : Program} {n : Nat} {F : List (Nat × V)} {a : Act} {w w' : World} {ops : Array Oper} {R : Exit → Act → World → Prop}
theorem Hd.world (h : Hd n F a w) (hF : (F.all fun q => litF q.2) = true) : Hd n F a w' := ⟨h.sz, h.df, fun s => litF_rep (litF_all hF s) (h.fr s)⟩
theorem Hd.stepW (h : Hd n F a w) (hF : (F.all fun q => litF q.2) = true) {o : Oper} {l : List Oper} {d : Nat} {u : Value} (hg : o.guard = none) (hdst : o.dst = some d) (hd : Nat.blt d n = true) (hr : (execOp a.eval o).run P w = .ok (.value u) w') (hn : ∀ a', Hd n ((d, ⟨.lit, u⟩) :: F) a' w' → LI P ops R l a' w') (hnd : noDefer [o] = true := by rfl) : LI P ops R (o :: l) a w := by
  refine LI.one (wpList_one hg hr ?_) hnd
  rw [hdst]
  exact ⟨rfl, hn _ ((h.world hF).lit hd u)⟩
/-- a store -/
theorem Hd.stepS (h : Hd n F a w) (hF : (F.all fun q => litF q.2) = true) {o : Oper} {l : List Oper} (hg : o.guard = none) (hdst : o.dst = none) (hr : (execOp a.eval o).run P w = .ok .skip w') (hn : Hd n F a w' → LI P ops R l a w') (hnd : noDefer [o] = true := by rfl) : LI P ops R (o :: l) a w := by
  refine LI.one ?_ hnd
  simp only [wpList, wpOp, Region.wanted, hg, if_true]
  refine .inl ?_
  unfold Oper.wp
  rw [hr]
  refine ⟨trivial, ?_⟩
  rw [hdst]
  first | exact hn (h.world hF) | exact ⟨rfl, hn (h.world hF)⟩
theorem Hd.int (h : Hd n F a w) {s : Nat} {k : Int} (hs : Frame.get F s = ⟨i64, k⟩) : a.tmps.getD s undef = .int .i64 k := by
  have := h.fr s
  rw [hs] at this
  exact RepV.int this
theorem Hd.toInt {d : Nat} {k : Int} (h : Hd n ((d, ⟨.lit, .int .i64 k⟩) :: F) a w) : Hd n ((d, ⟨i64, k⟩) :: F) a w := by
  refine ⟨h.sz, h.df, fun s => ?_⟩
  have h1 := h.fr s
  rw [Frame.get_cons] at h1 ⊢
  by_cases e : d = s
  · rw [if_pos e] at h1 ⊢
    have h1 : a.tmps.getD s undef = .int .i64 k := h1
    rw [h1]
    exact (RepD.scalar rfl).2 rfl
  · rw [if_neg e] at h1 ⊢
    exact h1
theorem Hd.toBool {d : Nat} {k : Bool} (h : Hd n ((d, ⟨.lit, .bool k⟩) :: F) a w) : Hd n ((d, ⟨.bool, k⟩) :: F) a w := by
  refine ⟨h.sz, h.df, fun s => ?_⟩
  have h1 := h.fr s
  rw [Frame.get_cons] at h1 ⊢
  by_cases e : d = s
  · rw [if_pos e] at h1 ⊢
    have h1 : a.tmps.getD s undef = .bool k := h1
    rw [h1]
    exact (RepD.scalar rfl).2 rfl
  · rw [if_neg e] at h1 ⊢
    exact h1
theorem len_run {o : Oper} {x : Operand} {xt te : TypeId} {A : Option Addr} {m c : Nat} (h : o.op = .call ⟨.builtin .len, #[x], #[xt]⟩) (hu : P.underlying xt = some (.slice te)) (hx : a.eval x = .slice A m c) : (execOp a.eval o).run P w = .ok (.value (.int .i64 m)) w := by
  have hr : (Builtin.len_ #[xt] o.type #[.slice A m c]).run P w = .ok (.int .i64 m) w := by
    unfold Builtin.len_
    simp [Sem.run_bind, run_underlying hu, goInt, Builtin.lenOf]
  simp only [execOp, h, resolve, builtin]
  simp [invoke, builtin, hx, hr, Result.andThen]
theorem index_run {o : Oper} {xt te : TypeId} {x y : Operand} {g L c : Nat} {i : Int} {τ : Ty} (h : o.op = .indexAddr xt x y) (hu : P.underlying xt = some (.slice te)) (hl : Lay P τ (.inl te)) (hs : τ.size = 1) (hx : a.eval x = .slice (some ⟨g, 0, none⟩) L c) (hy : a.eval y = .int .i64 i) (h0 : 0 ≤ i) (h1 : i < L) : (execOp a.eval o).run P w = .ok (.value (.pointer (some ⟨g, i.toNat, none⟩))) w := by
  unfold execOp
  simp only [h, hx, hy]
  have := indexAt_slice (P := P) (w := w) (k := .i64) (A := ⟨g, 0, none⟩) (n := L) (c := c) hu hl.sizeOf h0 h1
  rw [Addr.add_mid, hs, Nat.zero_add, Nat.mul_one] at this
  exact run_v this
theorem load1_run {o : Oper} {t : TypeId} {x : Operand} {g off : Nat} {u : Value} {τ : Ty} (h : o.op = .load t x) (hx : a.eval x = .pointer (some ⟨g, off, none⟩)) (hl : Lay P τ (.inl t)) (ha : τ.isAgg = false) (hc : w.cell? ⟨g, off, none⟩ = some u) : (execOp a.eval o).run P w = .ok (.value u) w := by
  unfold execOp
  simp only [h, hx]
  exact run_v (loadOne hl ha hc)
theorem field_run {o : Oper} {s : TypeId} {x : Operand} {g k : Nat} {fs : Array Field} {f : Field} {τ : Ty} (h : o.op = .fieldAddr s x k) (hx : a.eval x = .pointer (some ⟨g, 0, none⟩)) (hu : P.underlying s = some (.struct fs)) (hf : fs[k]? = some f) (hl : Lay P τ (.inl f.type)) (hz : 0 < τ.size) : (execOp a.eval o).run P w = .ok (.value (.pointer (some ⟨g, f.offset, none⟩))) w := by
  unfold execOp
  simp only [h, hx]
  have := fieldAt_run (P := P) (w := w) hu hf hl hz ⟨g, 0, none⟩
  rw [Addr.add_mid, Nat.zero_add] at this
  exact run_v this
end
end Go.Proofs.YthhphphdbgkdgaaDoor
