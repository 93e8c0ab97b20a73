/-
  Functions that write a variable which they were handed by its address, or panic. No program is read here.
-/
import Derived.Test.YthhphphdbgkdgaaDoorAbsHand
namespace Go.Proofs.YthhphphdbgkdgaaDoor
open Go Go.RowKit
set_option linter.unusedSimpArgs false
set_option linter.unusedVariables false
/-- what such a function does: its result and what the variable holds then, or what it panics with -/
structure PCtr where
  self : Ty
  args : List Ty
  inv : World → Nat → Prop
  pre : self.T → Args args → List Prop
  res : Ty
  out : self.T → Args args → Except Value (res.T × self.T)
def PEnd (c : PCtr) (w w' : World) (O : Nat → Prop) (g : Nat) (e : Ending) : Except Value (c.res.T × c.self.T) → Prop
  | .ok (y, x') => ∃ v cs' ty', e = .returned v ∧ w'.heap[g]? = some (.cells (List.toArray cs') ty' (0, 0)) ∧ RepC w' (fun h => O h ∨ h = g) c.self x' cs' ∧ (c.res = .unit ∨ ResRel w' O w.heap.size none c.res y v)
  | .error pv => e = .panicked [{ v := pv, recovered := false }] ∧ ∃ x' cs' ty', w'.heap[g]? = some (.cells (List.toArray cs') ty' (0, 0)) ∧ RepC w' (fun h => O h ∨ h = g) c.self x' cs'
def PCtrOk (P : Program) (G : World → Prop) (f : FuncId) (c : PCtr) : Prop :=
  (∀ (as : Array Value) (w : World), (callFunc f as).run P w = .ok (.enter f as) w) ∧
  ∀ (w : World) (O : Nat → Prop) (g : Nat) (cs : List Value) (ty : TypeId) (x : c.self.T) (xs : Args c.args) (vs : List Value), (∀ h, O h → h < w.heap.size ∧ h ≠ g) → w.heap[g]? = some (.cells cs.toArray ty (0, 0)) →
    RepC w (fun h => O h ∨ h = g) c.self x cs → RepA w (fun h => O h ∨ h = g) c.args xs vs → allP (c.pre x xs) → c.inv w g → G w →
    Calls P f (Value.pointer (some ⟨g, 0, none⟩) :: vs).toArray w fun e w' => Kept (fun h => h = g) w w' ∧ PEnd c w w' O g e (c.out x xs)
/-- what its walk must leave -/
def PDone (T : Tbl) (rs : List ResultVar) (c : PCtr) (e : Exit) (σ : AS) : Except Value (c.res.T × c.self.T) → Prop
  | .ok (y, x') => (e = .normal ∨ e = .ret) ∧ Owns.get σ.E 0 = some (.box c.self x') ∧ Done T rs σ none c.res y
  | .error pv => e = .panic [{ v := pv, recovered := false }] ∧ ∃ x', Owns.get σ.E 0 = some (.box c.self x')
section
variable {P : Program} {K : Kn} {n : Nat}
theorem pctr_of_awp {G : World → Prop} (hK : KnOk P G K) {f : FuncId} {fn : Func} {c : Code} {ctr : PCtr} (hf : P.funcs[f]? = some fn) (hb : fn.body = some c) (hn : fn.ntmps = n)
    (hen : ∀ (as : Array Value) (w : World), (callFunc f as).run P w = .ok (.enter f as) w) (hd : allData ctr.args = true) (hlen : ctr.args.length + 1 ≤ n) (hst : ∀ w w' g, ctr.inv w g → G w → Kept (fun h => h = g) w w' → G w')
    (h : ∀ (w0 : World) (O : Nat → Prop) (g : Nat), (Ownr.one G O g).Ok w0 → ctr.inv w0 g → ∀ (x : ctr.self.T) (xs : Args ctr.args), allP (ctr.pre x xs) →
      AWP P w0 (Ownr.one G O g) n c (initR ctr.self x ctr.args xs) (fun e σ => PDone K.T fn.results.toList ctr e σ (ctr.out x xs))) : PCtrOk P G f ctr := by
  refine ⟨hen, fun w O g cs ty x xs vs hO hg hx hrep hp hinv hG => calls_of_wp hf hb ?_⟩
  have hvl := repA_len _ _ _ hrep
  have hgl := (Array.getElem?_eq_some_iff.1 hg).1
  let X : Ownr := Ownr.one G O g
  have hXR : ∀ h, X.R h ↔ h = g := Ownr.one_R _ _ _
  have hX : X.Ok w := ⟨fun h hh => ⟨(hO h hh).1, fun e => (hO h hh).2 ((hXR h).1 e)⟩, fun h e => by rw [(hXR h).1 e]; exact hgl, fun w' hk => hst w w' g hinv hG ⟨hk.os, hk.tape, hk.output, hk.size, fun k hkl hr => hk.block k hkl fun hr' => hr ((hXR k).1 hr')⟩⟩
  let β : Nat → Value := fun _ => .pointer (some ⟨g, 0, none⟩)
  have hE : OSet X (initR ctr.self x ctr.args xs).E β = fun h => O h ∨ h = g := by
    funext k
    apply propext
    constructor
    · rintro (h | ⟨i, o, _, h⟩)
      · exact .inl h
      · exact .inr (by simpa [β, blockOf] using h.symm)
    · rintro (h | h)
      · exact .inl h
      · exact .inr ⟨0, _, rfl, by rw [h]; rfl⟩
  have hget : ∀ i o, Owns.get (initR ctr.self x ctr.args xs).E i = some o → i = 0 ∧ o = .box ctr.self x := fun i o h => by
    rw [show (initR ctr.self x ctr.args xs).E = [(0, some (.box ctr.self x))] from rfl, Owns.get_cons] at h
    by_cases hi : 0 = i
    · rw [if_pos hi] at h; cases h; exact ⟨hi.symm, rfl⟩
    · rw [if_neg hi] at h; cases h
  have hsim : Sim w X n (initR ctr.self x ctr.args xs) β { tmps := (Value.pointer (some ⟨g, 0, none⟩) :: vs).toArray ++ Array.replicate (fn.ntmps - (Value.pointer (some ⟨g, 0, none⟩) :: vs).toArray.size) undef, defers := [] } w := by
    refine ⟨by simp [hn, hvl]; omega, rfl, Kept.refl _ _, fun s => ?_, fun i o h => ?_, fun i o k h hk => ?_, fun i j oi oj h h' hne => ?_, fun i o h => ?_, ⟨Nat.le_refl _, fun i hi => ⟨rfl, fun o ho => ?_⟩⟩, fun s => ?_, fun i o h => by rw [(hget i o h).2]; intro _ e; cases e⟩
    · rw [hE]
      have e : ((Value.pointer (some ⟨g, 0, none⟩) :: vs).toArray ++ Array.replicate (fn.ntmps - (Value.pointer (some ⟨g, 0, none⟩) :: vs).toArray.size) undef) = ([Value.pointer (some ⟨g, 0, none⟩)] ++ vs ++ List.replicate (fn.ntmps - (vs.length + 1)) undef).toArray := by simp
      show RepV w _ _ _ _ (((Value.pointer (some ⟨g, 0, none⟩) :: vs).toArray ++ Array.replicate (fn.ntmps - (Value.pointer (some ⟨g, 0, none⟩) :: vs).toArray.size) undef).getD s undef)
      rw [e]
      have := initF_rep (β := β) ctr.args xs vs [Value.pointer (some ⟨g, 0, none⟩)] (List.replicate (fn.ntmps - (vs.length + 1)) undef) hd hrep s
      have key : ∀ u : Value, RepV w (fun h => O h ∨ h = g) β (Frame.get ((0, ⟨.optr ctr.self, ⟨0, ctr.self, .here⟩⟩) :: initF ctr.args xs 1) s).t (Frame.get ((0, ⟨.optr ctr.self, ⟨0, ctr.self, .here⟩⟩) :: initF ctr.args xs 1) s).x u = RepV w (fun h => O h ∨ h = g) β (if 0 = s then (⟨.optr ctr.self, ⟨0, ctr.self, .here⟩⟩ : V) else Frame.get (initF ctr.args xs 1) s).t (if 0 = s then (⟨.optr ctr.self, ⟨0, ctr.self, .here⟩⟩ : V) else Frame.get (initF ctr.args xs 1) s).x u := fun u => by
        rw [← Frame.get_cons]
      refine (key _).mpr ?_
      by_cases hs : 0 = s
      · rw [if_pos hs]
        subst hs
        exact ⟨g, rfl, by simp [Array.getD, Path.off]⟩
      · rw [if_neg hs]
        exact this
    · obtain ⟨rfl, rfl⟩ := hget i o h
      exact ⟨g, cs, ty, rfl, Nat.zero_le _, hg, by rw [hE]; exact hx⟩
    · exact .inr ((hXR k).2 (by simpa [β, blockOf] using hk.symm))
    · have := (hget i oi h).1
      have := (hget j oj h').1
      omega
    · have := (hget i o h).1
      subst this
      exact Nat.lt_succ_self 0
    · rw [(hget i o ho).2]; rfl
    · show (Frame.get ((0, ⟨.optr ctr.self, ⟨0, ctr.self, .here⟩⟩) :: initF ctr.args xs 1) s).bound ≤ 1
      rw [Frame.get_cons]
      by_cases hs : 0 = s
      · rw [if_pos hs]; exact Nat.le_refl _
      · rw [if_neg hs, initF_bound _ _ _ _ hd]
        exact Nat.zero_le _
  refine wp_mono (wpIn_wide.1 (h w O g hX hinv x xs hp _ _ _ hsim)) fun e a' w' ⟨σ', β', h1, h2⟩ => ?_
  have hbk : Kept (fun h => h = g) w w' := ⟨h1.bel.os, h1.bel.tape, h1.bel.output, h1.bel.size, fun k hk hr => h1.bel.block k hk fun hr' => hr ((hXR k).1 hr')⟩
  have hself : ∀ x', Owns.get σ'.E 0 = some (.box ctr.self x') → ∃ cs' ty', w'.heap[g]? = some (.cells (List.toArray cs') ty' (0, 0)) ∧ RepC w' (fun h => O h ∨ h = g) ctr.self x' cs' := fun x' h6 => by
    obtain ⟨g', cs', ty', hb1, _, hb3, hb4⟩ := h1.own 0 _ h6
    have hb5 := (h1.fix.2 0 (Nat.lt_succ_self 0)).1
    rw [hb1] at hb5
    have hgg : g' = g := by simpa [blockOf, X, Ownr.one] using hb5
    subst hgg
    exact ⟨cs', ty', hb3, RepC.keep ⟨Nat.le_refl _, fun _ _ _ => rfl, fun k _ hk => by
      rcases hk with hk | hk
      · exact .inl hk
      · exact .inr ⟨0, _, h6, by rw [hb1, hk]; rfl⟩⟩ _ _ _ hb4⟩
  revert h2
  cases ho : ctr.out x xs with
  | error pv =>
    rintro ⟨rfl, x', h6⟩
    obtain ⟨cs', ty', h7, h8⟩ := hself x' h6
    exact ⟨h1.df, hbk, rfl, x', cs', ty', h7, h8⟩
  | ok p =>
    obtain ⟨y, x'⟩ := p
    rintro ⟨h2, h6, h3⟩
    obtain ⟨cs', ty', h7, h8⟩ := hself x' h6
    obtain ⟨v, h4, h5⟩ := done_res (X := X) hK hX h1.seen h3 (.inl rfl)
    rcases h2 with rfl | rfl
    · exact ⟨h1.df, v, h4, hbk, v, cs', ty', rfl, h7, h8, h5⟩
    · exact ⟨h1.df, v, h4, hbk, v, cs', ty', rfl, h7, h8, h5⟩
end
section
variable {P : Program} {K : Kn} {w0 : World} {X : Ownr} {n : Nat} {σ : AS} {Q : Exit → AS → Prop} {ops : Array Oper}
/-- what a call of such a function leaves -/
def PCall (P : Program) (w0 : World) (X : Ownr) (n : Nat) (ops : Array Oper) (rest : List Oper) (c : PCtr) (F' : c.res.T → Frame) (F : Frame) (E : Owns) (i nx : Nat) (Q : Exit → AS → Prop) : Except Value (c.res.T × c.self.T) → Prop
  | .ok (y, x') => AL P w0 X n ops rest ⟨F' y, (i, some (.box c.self x')) :: E, nx⟩ Q
  | .error pv => ∀ x', Q (.panic [{ v := pv, recovered := false }]) ⟨F, (i, some (.box c.self x')) :: E, nx⟩
/-- as PCall, whatever follows -/
def PCallN (N : AS → Prop) (c : PCtr) (F' : c.res.T → Frame) (F : Frame) (E : Owns) (i nx : Nat) (Q : Exit → AS → Prop) : Except Value (c.res.T × c.self.T) → Prop
  | .ok (y, x') => N ⟨F' y, (i, some (.box c.self x')) :: E, nx⟩
  | .error pv => ∀ x', Q (.panic [{ v := pv, recovered := false }]) ⟨F, (i, some (.box c.self x')) :: E, nx⟩
theorem pcall_wp (hX : X.Ok w0) {o : Oper} {f : FuncId} {c : PCtr} (hc : PCtrOk P X.G f c) {args : Array Operand} {ts : Array TypeId} {a0 : Operand} {as : List Operand} (ho : o.op = .call ⟨.value (.func f), args, ts⟩) (hargs : args.toList = a0 :: as)
    {F : Frame} {E : Owns} {nx : Nat} (hσ : frzs σ as = ⟨F, E, nx⟩) {t0 : Ty} {p : OPtr t0} (hev : evO F a0 = ⟨.optr t0, p⟩) {x : c.self.T} (hbox : Owns.get E p.i = some (.box c.self x)) (hoff : p.p.off = 0) (hd : allData c.args = true) (hfl : c.res.flat = true)
    {q : List Prop} {xs : Args c.args} (hav : argsV E false (as.map (evO F)) c.args = some (q, xs)) (hq : allP q) (hpre : allP (c.pre x xs)) (hinv : ∀ w g, (w0.heap.size ≤ g ∨ X.R g) → X.G w → c.inv w g) {F' : c.res.T → Frame} (hput : ∀ y, putD n o.dst (resV c.res y) F = some (F' y))
    {N : AS → Prop} (h : PCallN N c F' F E p.i nx Q (c.out x xs)) (β : Nat → Value) (a : Act) (w : World) (hs : Sim w0 X n σ β a w) : o.wp P a w (fun a' w' => ∃ σ' β', Sim w0 X n σ' β' a' w' ∧ N σ') (fun e a' w' => e ≠ .outgrown ∧ ∃ σ' β', Sim w0 X n σ' β' a' w' ∧ Q e σ') := by
  have h1 := hs.frzs hX as
  rw [hσ] at h1
  obtain ⟨hen, hcall⟩ := hc
  have hv := h1.ops a0
  rw [show evO (AS.mk F E nx).F a0 = _ from hev] at hv
  obtain ⟨g, hg1, hg2⟩ := hv
  rw [hoff] at hg2
  obtain ⟨g', cs, ty, e1, _, e3, e4⟩ := h1.own _ _ hbox
  have hgg : g' = g := by rw [e1] at hg1; simpa [blockOf] using hg1
  subst hgg
  have hOg : OSet X E β g' := .inr ⟨_, _, hbox, by rw [e1]; rfl⟩
  have hset : (fun k => false = false ∧ OSet X E β k) = fun k => (OSet X E β k ∧ k ≠ g') ∨ k = g' := by
    funext k
    apply propext
    constructor
    · rintro ⟨_, hk⟩
      by_cases e : k = g'
      · exact .inr e
      · exact .inl ⟨hk, e⟩
    · rintro (⟨hk, _⟩ | rfl)
      · exact ⟨rfl, hk⟩
      · exact ⟨rfl, hOg⟩
  have hset2 : OSet X E β = fun k => (OSet X E β k ∧ k ≠ g') ∨ k = g' := by
    rw [← hset]
    funext k
    simp
  have hvs : RepVs w (OSet X E β) β (as.map (evO F)) (as.map a.eval) := by
    refine ⟨by simp, fun i v hv => ?_⟩
    rw [List.getElem?_map] at hv
    obtain ⟨z, hz, rfl⟩ := Option.map_eq_some_iff.1 hv
    exact ⟨a.eval z, by rw [List.getElem?_map, hz]; rfl, h1.ops z⟩
  have ha := argsV_rep (B := 0) h1.own hd hav hq hvs.2 hvs.1
  rw [hset] at ha
  rw [hset2] at e4
  have hO : ∀ k, (OSet X E β k ∧ k ≠ g') → k < w.heap.size ∧ k ≠ g' := fun k hk => ⟨h1.hO hX k hk.1, hk.2⟩
  have hnew := h1.new _ _ g' hbox (by rw [e1]; rfl)
  have hcl := hcall w _ g' cs ty _ xs _ hO e3 e4 ha hpre (hinv w g' hnew (hX.2.2 w h1.bel)) (hX.2.2 w h1.bel)
  have hargs' : (args.toList.map a.eval).toArray = (Value.pointer (some ⟨g', 0, none⟩) :: as.map a.eval).toArray := by rw [hargs, List.map_cons, hg2]
  have hrun : (execOp a.eval o).run P w = .ok (.enter f (args.toList.map a.eval).toArray) w := by
    have em : (args.toList.map a.eval).toArray = args.map a.eval ++ #[] := by
      rw [← map_toArr]
      simp
    have hx : a.eval (.func f) = .func (.func f) #[] #[] := rfl
    rw [em]
    unfold execOp
    simp [ho, resolve, invoke, Deferred.ofValue, hx, hen]
  have hwr : ∀ w' x' cs' ty', Kept (fun h => h = g') w w' → w'.heap[g']? = some (.cells (List.toArray cs') ty' (0, 0)) → RepC w' (fun h => (OSet X E β h ∧ h ≠ g') ∨ h = g') c.self x' cs' → Sim w0 X n ⟨F, (p.i, some (.box c.self x')) :: E, nx⟩ β a w' := fun w' x' cs' ty' hk hc' hrep =>
    h1.write (w' := w') (o' := .box c.self x') hbox ⟨hk.os, hk.tape, hk.output, hk.size, fun k hkl hne => hk.block k hkl fun e => hne (by rw [e1, e]; rfl)⟩ (fun _ => ⟨g', cs', ty', e1, Nat.zero_le _, hc', by rw [hset2]; exact hrep⟩) rfl
  unfold Oper.wp
  rw [hrun, hargs']
  refine hcl.mono fun e w' hr => ?_
  obtain ⟨hk, hr⟩ := hr
  revert hr h
  cases c.out x xs with
  | error pv =>
    intro h
    rintro ⟨rfl, x', cs', ty', h7, h8⟩
    exact ⟨fun e => (by cases e), _, β, hwr w' x' cs' ty' hk h7 h8, h x'⟩
  | ok r =>
    obtain ⟨y, x'⟩ := r
    intro h
    rintro ⟨v, cs', ty', rfl, h7, h8, hres⟩
    have h2 := hwr w' x' cs' ty' hk h7 h8
    refine ⟨_, β, ?_, h⟩
    have hp := hput y
    unfold putD at hp
    split at hp
    · rename_i d hdst
      split at hp <;> first | (cases hp; done) | skip
      rename_i hlt
      have hp := Option.some.inj hp
      rw [hdst, ← hp]
      exact h2.put (Below.refl _ _) (resV_rep (O' := OSet X _ β) (β := β) _ hfl hres) (resV_bound _ hfl _) (by simpa using hlt : d < n)
    · rename_i hdst
      have hp := Option.some.inj hp
      rw [hdst, ← hp]
      exact h2
theorem AL.pcall (hX : X.Ok w0) {o : Oper} {rest : List Oper} {f : FuncId} {c : PCtr} (hc : PCtrOk P X.G f c) {args : Array Operand} {ts : Array TypeId} {a0 : Operand} {as : List Operand} (ho : o.op = .call ⟨.value (.func f), args, ts⟩) (hgd : o.guard = none) (hargs : args.toList = a0 :: as)
    {F : Frame} {E : Owns} {nx : Nat} (hσ : frzs σ as = ⟨F, E, nx⟩) {t0 : Ty} {p : OPtr t0} (hev : evO F a0 = ⟨.optr t0, p⟩) {x : c.self.T} (hbox : Owns.get E p.i = some (.box c.self x)) (hoff : p.p.off = 0) (hd : allData c.args = true) (hfl : c.res.flat = true)
    {q : List Prop} {xs : Args c.args} (hav : argsV E false (as.map (evO F)) c.args = some (q, xs)) (hq : allP q) (hpre : allP (c.pre x xs)) (hinv : ∀ w g, (w0.heap.size ≤ g ∨ X.R g) → X.G w → c.inv w g) {F' : c.res.T → Frame} (hput : ∀ y, putD n o.dst (resV c.res y) F = some (F' y))
    (h : PCall P w0 X n ops rest c F' F E p.i nx Q (c.out x xs)) : AL P w0 X n ops (o :: rest) σ Q :=
  AL.hand hgd (fun c e => by rw [ho] at e; cases e) fun β a w hs => pcall_wp hX hc ho hargs hσ hev hbox hoff hd hfl hav hq hpre hinv hput (N := fun σ' => AL P w0 X n ops rest σ' Q) (by revert h; cases c.out x xs <;> exact id) β a w hs
end
end Go.Proofs.YthhphphdbgkdgaaDoor
