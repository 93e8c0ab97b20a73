/-
  Texts of this claim, joined: what the statement's proof uses.
-/
import Derived.Test.YtpeaigpfddalcaaGreatDoorYB
namespace Go.Proofs.YtpeaigpfddalcaaGreatDoor
open Go Go.RowKit
set_option linter.unusedSimpArgs false
set_option linter.unusedVariables false
section
variable {P : Program} {K : Kn} {w0 : World} {X : Ownr} {n : Nat} {σ : AS} {Q : Exit -> AS -> Prop} {ops : Array Oper}
theorem AL.step {o o' : Oper} {rest : List Oper} (heq : OpEq P o o') (hX : X.Ok w0) (hK : KnOk P X.G K) {r : List Prop × AS} (hs : zjB K n ops o' σ = some r) (hp : allP r.1) (h : AL P w0 X n ops rest r.2 Q) (hgd : o.guard = none := by rfl) (hnd : ∀ c, o.op ≠ .defer c := by intro c e; cases e) : AL P w0 X n ops (o :: rest) σ Q := by
  refine AL.hand hgd hnd fun β a w hsim => heq.wp ?_
  have h1 := ze8 (ops := ops) (N := fun a' w' => ∃ σ' β', Sim w0 X n σ' β' a' w' ∧ AL P w0 X n ops rest σ' Q) (R := fun e a' w' => e ≠ .outgrown ∧ ∃ σ' β', Sim w0 X n σ' β' a' w' ∧ Q e σ') hK hX hsim hs hp fun β' a' w' h2 => ⟨r.2, β', h2, h⟩
  have hg' : o'.guard = none := by rw [<- heq.guard]; exact hgd
  simp only [Region.wanted, hg', if_true] at h1
  rcases h1 with h1 | ⟨_, h1⟩
  · exact h1
  · obtain ⟨_, _, h2, _⟩ := h1
    exact absurd rfl h2
end
section
variable {P : Program} {ops ops' : Array Oper} {d : Nat} {src : Operand}
theorem zgN {a : Act} {v : Value} {x : Operand} (h : x ≠ .tmp d) : (a.put (some d) v).eval x = a.eval x := by
  cases x with
  | tmp t =>
    have : d ≠ t := fun e => h (by rw [e])
    show (a.tmps.setIfInBounds d v).getD t undef = a.tmps.getD t undef
    simp only [Array.getD_eq_getD_getElem?, Array.getElem?_setIfInBounds_ne this]
  | _ => rfl
theorem zoQ {a : Act} {v x : Value} {q : Option Nat} (h : q ≠ some d) : (a.put (some d) v).put q x = (a.put q x).put (some d) v := by
  cases q with
  | none => rfl
  | some e =>
    have : d ≠ e := fun h' => h (by rw [h'])
    show ({ a with tmps := (a.tmps.setIfInBounds d v).setIfInBounds e x } : Act) = { a with tmps := (a.tmps.setIfInBounds e x).setIfInBounds d v }
    rw [Array.setIfInBounds_comm _ _ this]
structure FlOp (P : Program) (d : Nat) (src : Operand) (o o' : Oper) : Prop where
  dst : o.dst = o'.dst
  guard : o.guard = none
  guard' : o'.guard = none
  fwd : ∀ e ∈ o.after, e ∈ o'.after
  bwd : ∀ e ∈ o'.after, e ∈ o.after ∨ e.on = 0
  run : ∀ (ev : Operand -> Value) (w : World), (execOp ev o).run P w = (execOp ev o').run P w
  nd : o.dst ≠ some d
  ns : ∀ t, src = .tmp t -> o.dst ≠ some t
  sees : (∃ e ∈ o.after, e.on = 0 ∧ Region.binds .any e = true) ∨ ∀ ev ev' : Operand -> Value, (∀ x, x ≠ .tmp d -> ev x = ev' x) -> execOp ev o = execOp ev' o
theorem FlOp.of_eq {o o' : Oper} (h : OpEq P o o') (hg : o.guard = none) (nd : o.dst ≠ some d) (ns : ∀ t, src = .tmp t -> o.dst ≠ some t) (sees : (∃ e ∈ o.after, e.on = 0 ∧ Region.binds .any e = true) ∨ ∀ ev ev' : Operand -> Value, (∀ x, x ≠ .tmp d -> ev x = ev' x) -> execOp ev o = execOp ev' o) : FlOp P d src o o' :=
  ⟨h.dst, hg, by rw [<- h.guard]; exact hg, fun e he => by rw [<- h.after]; exact he, fun e he => .inl (by rw [h.after]; exact he), h.run, nd, ns, sees⟩
theorem FlOp.edge {o : Oper} (k : Nat) (hg : o.guard = none) (nd : o.dst ≠ some d) (ns : ∀ t, src = .tmp t -> o.dst ≠ some t) (sees : (∃ e ∈ o.after, e.on = 0 ∧ Region.binds .any e = true) ∨ ∀ ev ev' : Operand -> Value, (∀ x, x ≠ .tmp d -> ev x = ev' x) -> execOp ev o = execOp ev' o) : FlOp P d src o { o with after := o.after ++ #[{ (o.after.getD k default) with on := 0 }] } :=
  ⟨rfl, hg, hg, fun e he => Array.mem_append.2 (.inl he), fun e he => (Array.mem_append.1 he).imp id fun h => by rw [Array.mem_singleton.1 h], fun _ _ => rfl, nd, ns, sees⟩
inductive FlL (P : Program) (d : Nat) (src : Operand) : List Oper -> List Oper -> Prop where
  | nil : FlL P d src [] []
  | cons {o o' : Oper} {l l' : List Oper} (h : FlOp P d src o o') (t : FlL P d src l l') : FlL P d src (o :: l) (o' :: l')
theorem FlL.get {P : Program} {l l' : List Oper} (h : FlL P d src l l') : l.length = l'.length ∧ (∀ (i : Nat) (o : Oper), l[i]? = some o -> ∃ o', l'[i]? = some o' ∧ FlOp P d src o o') := by
  induction h with
  | nil => exact ⟨rfl, fun i o h => by simp at h⟩
  | cons h _ ih =>
    obtain ⟨h3, h4⟩ := ih
    refine ⟨by simp [h3], fun i o h' => ?_⟩
    cases i with
    | zero => cases h'; exact ⟨_, rfl, h⟩
    | succ i => exact h4 i o (by simpa using h')
structure FlOk (P : Program) (d : Nat) (src : Operand) (ops ops' : Array Oper) : Prop where
  size : ops.size = ops'.size
  zero : ∃ o, ops[0]? = some o ∧ ops'[0]? = some o ∧ o.op = .move src ∧ o.dst = some d ∧ (∀ e ∈ o.after, False) ∧ o.guard = none
  rest : ∀ (i : Nat) (o : Oper), i ≠ 0 -> ops[i]? = some o -> ∃ o', ops'[i]? = some o' ∧ FlOp P d src o o'
theorem FlOk.of {o0 : Oper} {l l' : List Oper} (hops : ops.toList = o0 :: l) (hop : o0.op = .move src) (hd : o0.dst = some d) (haf : o0.after.toList = []) (hg : o0.guard = none) (h : FlL P d src l l') : FlOk P d src ops (o0 :: l').toArray := by
  obtain ⟨h1, h2⟩ := h.get
  have e : ops = (o0 :: l).toArray := by rw [<- hops]
  subst e
  refine ⟨by simp [h1], ⟨o0, by simp, by simp, hop, hd, fun e he => ?_, hg⟩, fun i o hi ho => ?_⟩
  · have := Array.mem_toList_iff.2 he
    rw [haf] at this
    cases this
  · cases i with
    | zero => exact absurd rfl hi
    | succ i =>
      obtain ⟨o', h3, h4⟩ := h2 i o (by simpa using ho)
      exact ⟨o', by simpa using h3, h4⟩
variable {Q : Exit -> Act -> World -> Prop}
theorem FlOk.ready (h : FlOk P d src ops ops') {listed : Array Bool} {j : Nat} (hz : listed.getD 0 false = true) : j ∈ Region.ready .any ops listed ↔ j ∈ Region.ready .any ops' listed := by
  obtain ⟨o0, e1, e2, _, _, e5, _⟩ := h.zero
  rw [mem_ready, mem_ready]
  by_cases hj : j = 0
  · subst hj
    rw [e1, e2]
  constructor
  · rintro ⟨h4, o, h5, h6⟩
    obtain ⟨o', h7, h8⟩ := h.rest j o hj h5
    exact ⟨h4, o', h7, fun e he hb => by
      rcases h8.bwd e he with h9 | h9
      · exact h6 e h9 hb
      · rw [h9]; exact hz⟩
  · rintro ⟨h4, o', h5, h6⟩
    have hlt : j < ops.size := by rw [h.size]; exact (Array.getElem?_eq_some_iff.1 h5).1
    obtain ⟨o2, h7, h8⟩ := h.rest j _ hj (Array.getElem?_eq_getElem hlt)
    rw [h5] at h7
    cases h7
    exact ⟨h4, _, Array.getElem?_eq_getElem hlt, fun e he hb => h6 e (h8.fwd e he) hb⟩
theorem ziu (h : FlOk P d src ops ops') (hno : ¬ LetsOut Q) : ∀ (fuel : Nat) {listed : Array Bool} {a : Act} {w : World}, listed.getD 0 false = true -> wpAny P .any ops' Q fuel listed a w -> wpAny P .any ops Q fuel listed a w := by
  have hnil : ∀ {listed : Array Bool}, listed.getD 0 false = true -> (Region.ready .any ops listed = [] ↔ Region.ready .any ops' listed = []) := fun {listed} hz => by
    rw [List.eq_nil_iff_forall_not_mem, List.eq_nil_iff_forall_not_mem]
    exact ⟨fun h1 i hi => h1 i ((h.ready hz).2 hi), fun h1 i hi => h1 i ((h.ready hz).1 hi)⟩
  intro fuel
  induction fuel with
  | zero => intro listed a w hz hw; exact ⟨(hnil hz).2 hw.1, hw.2⟩
  | succ fuel ih =>
    intro listed a w hz hw
    refine ⟨fun h1 => hw.1 ((hnil hz).1 h1), fun i hi => ?_⟩
    have h2 := hw.2 i ((h.ready hz).1 hi)
    have hi0 : i ≠ 0 := by
      rintro rfl
      have h3 := getD_both (mem_ready.1 hi).1
      rw [hz] at h3
      cases h3
    obtain ⟨_, o, ho, _⟩ := mem_ready.1 hi
    obtain ⟨o', h4, h5⟩ := h.rest i o hi0 ho
    unfold wpOp at h2 ⊢
    rw [ho]
    rw [h4] at h2
    simp only [Region.wanted, h5.guard, h5.guard', if_true] at h2 ⊢
    rcases h2 with h2 | ⟨_, h2⟩
    · refine .inl ?_
      have h2 := Oper.wp_mono (fun a w hh => ih (getD_set_true hz) hh) h2
      unfold Oper.wp at h2 ⊢
      rw [h5.run]
      revert h2
      generalize (execOp a.eval o').run P w = x
      unfold Oper.upon
      rw [h5.dst]
      exact id
    · exact absurd h2 hno
theorem zoy {listed : Array Bool} {i j : Nat} : (listed.setIfInBounds i true).setIfInBounds j true = (listed.setIfInBounds j true).setIfInBounds i true := by
  by_cases h : i = j
  · rw [h]
  · exact Array.setIfInBounds_comm _ _ h
theorem zma (h : FlOk P d src ops ops') (hsd : src ≠ .tmp d) (hno : ¬ LetsOut Q) (hQn : ∀ e a w, Q e a w -> e = .normal) : ∀ (fuel : Nat) {listed : Array Bool} {a : Act} {w : World}, listed.size = ops.size -> listed.getD 0 true = false -> wpAny P .any ops' Q fuel (listed.setIfInBounds 0 true) (a.put (some d) (a.eval src)) w -> wpAny P .any ops Q (fuel + 1) listed a w := by
  obtain ⟨o0, e1, e2, e3, e4, e5, e6⟩ := h.zero
  have hpos : 0 < ops.size := (Array.getElem?_eq_some_iff.1 e1).1
  have hz1 : ∀ {listed : Array Bool}, listed.size = ops.size -> (listed.setIfInBounds 0 true).getD 0 false = true := fun {listed} hs => by
    simp [Array.getD_eq_getD_getElem?, Array.getElem?_setIfInBounds, hs, hpos]
  intro fuel
  induction fuel with
  | zero =>
    intro listed a w hs hz hw
    have h0 : (0 : Nat) ∈ Region.ready .any ops listed := mem_ready.2 ⟨hz, o0, e1, fun e he _ => (e5 e he).elim⟩
    refine ⟨fun h1 => (by rw [h1] at h0; cases h0), fun i hi => ?_⟩
    by_cases hi0 : i = 0
    · subst hi0
      unfold wpOp
      rw [e1]
      simp only [Region.wanted, e6, if_true]
      refine .inl ?_
      have : (execOp a.eval o0).run P w = .ok (.value (a.eval src)) w := by unfold execOp; rw [e3]; rfl
      unfold Oper.wp
      rw [this, Oper.upon_value, e4]
      exact ziu h hno _ (hz1 hs) hw
    · have hr := (h.ready (hz1 hs) (j := i)).1 (mem_ready.2 (by
        obtain ⟨q1, o, q2, q3⟩ := mem_ready.1 hi
        refine ⟨by rw [getD_set_ne _ (Ne.symm hi0)]; exact q1, o, q2, fun e he hb => ?_⟩
        exact getD_set_true (q3 e he hb)))
      rw [hw.1] at hr
      cases hr
  | succ fuel ih =>
    intro listed a w hs hz hw
    have h0 : (0 : Nat) ∈ Region.ready .any ops listed := mem_ready.2 ⟨hz, o0, e1, fun e he _ => (e5 e he).elim⟩
    refine ⟨fun h1 => (by rw [h1] at h0; cases h0), fun i hi => ?_⟩
    by_cases hi0 : i = 0
    · subst hi0
      unfold wpOp
      rw [e1]
      simp only [Region.wanted, e6, if_true]
      refine .inl ?_
      have : (execOp a.eval o0).run P w = .ok (.value (a.eval src)) w := by unfold execOp; rw [e3]; rfl
      unfold Oper.wp
      rw [this, Oper.upon_value, e4]
      exact ziu h hno _ (hz1 hs) hw
    · have hr := (h.ready (hz1 hs) (j := i)).1 (mem_ready.2 (by
        obtain ⟨q1, o, q2, q3⟩ := mem_ready.1 hi
        refine ⟨by rw [getD_set_ne _ (Ne.symm hi0)]; exact q1, o, q2, fun e he hb => ?_⟩
        exact getD_set_true (q3 e he hb)))
      have h2 := hw.2 i hr
      obtain ⟨q1, o, ho, q3⟩ := mem_ready.1 hi
      obtain ⟨o', h4, h5⟩ := h.rest i o hi0 ho
      have hev : ∀ x w, (execOp x o).run P w = (execOp x o').run P w := h5.run
      have hex : execOp (a.put (some d) (a.eval src)).eval o = execOp a.eval o := by
        rcases h5.sees with ⟨e, he, h6, h7⟩ | h6
        · have := q3 e he h7
          rw [h6, getD_both hz] at this
          cases this
        · exact h6 _ _ fun x hx => zgN hx
      have hsrc : ∀ (b : Act) v, (b.put o.dst v).eval src = b.eval src := fun b v => by
        cases hd : o.dst with
        | none => rfl
        | some t => exact zgN fun e => h5.ns t e hd
      have hput : ∀ (b : Act) v x, (b.put (some d) v).put o.dst x = (b.put o.dst x).put (some d) v := fun b v x => zoQ h5.nd
      unfold wpOp at h2 ⊢
      rw [ho]
      rw [h4] at h2
      simp only [Region.wanted, h5.guard, h5.guard', if_true] at h2 ⊢
      rcases h2 with h2 | ⟨_, h2⟩
      · refine .inl ?_
        have key : ∀ (b : Act) w', wpAny P .any ops' Q fuel ((listed.setIfInBounds 0 true).setIfInBounds i true) (b.put (some d) (b.eval src)) w' -> wpAny P .any ops Q (fuel + 1) (listed.setIfInBounds i true) b w' := fun b w' hh => by
          rw [zoy] at hh
          exact ih (by simp [hs]) (by rw [getD_set_ne _ hi0]; exact hz) hh
        unfold Oper.wp at h2 ⊢
        rw [<- hev, hex] at h2
        revert h2
        generalize (execOp a.eval o).run P w = x
        unfold Oper.upon
        rw [<- h5.dst]
        intro h2
        have kp : ∀ v w', wpAny P .any ops' Q fuel ((listed.setIfInBounds 0 true).setIfInBounds i true) ((a.put (some d) (a.eval src)).put o.dst v) w' -> wpAny P .any ops Q (fuel + 1) (listed.setIfInBounds i true) (a.put o.dst v) w' := fun v w' hh => by
          rw [hput] at hh
          exact key _ _ (by rw [hsrc]; exact hh)
        cases x with
        | ok x w' =>
          cases x with
          | value v => exact kp _ _ h2
          | skip => exact kp _ _ h2
          | defer c =>
            have hsx : ({ a with defers := c :: a.defers } : Act).eval src = a.eval src := by cases src <;> rfl
            refine key _ _ ?_
            rw [hsrc, hsx, <- hput]
            exact h2
          | enter f args =>
            refine Calls.mono h2 fun e w'' he => ?_
            cases e with
            | returned v => exact kp _ _ he
            | panicked c => exact absurd (hQn _ _ _ he) (by intro hh; cases hh)
            | outgrown => exact absurd he hno
          | row r args => exact Rows.mono h2 fun v w'' he => kp _ _ he
          | _ => exact h2
        | halt x w' =>
          cases x with
          | panic v => exact absurd (hQn _ _ _ h2) (by intro hh; cases hh)
          | _ => exact h2
      · exact absurd h2 hno
theorem zon (h : FlOk P d src ops ops') (hsd : src ≠ .tmp d) (hno : ¬ LetsOut Q) (hQn : ∀ e a w, Q e a w -> e = .normal) {a : Act} {w : World} (hw : wpAny P .any ops' Q ops'.size (Array.replicate ops'.size false) a w) : wpAny P .any ops Q ops.size (Array.replicate ops.size false) a w := by
  obtain ⟨o0, e1, e2, e3, e4, e5, e6⟩ := h.zero
  have hpos : 0 < ops.size := (Array.getElem?_eq_some_iff.1 e1).1
  rw [<- h.size] at hw
  obtain ⟨f, hf⟩ : ∃ f, ops.size = f + 1 := ⟨ops.size - 1, by omega⟩
  have hz : (Array.replicate ops.size false).getD 0 true = false := by simp [hpos]
  generalize hl : Array.replicate ops.size false = listed at hw hz ⊢
  have hs : listed.size = ops.size := by rw [<- hl]; simp
  rw [hf] at hw ⊢
  refine zma h hsd hno hQn f hs hz ?_
  have h0 : (0 : Nat) ∈ Region.ready .any ops' listed := mem_ready.2 ⟨hz, o0, e2, fun e he _ => (e5 e he).elim⟩
  have h1 := hw.2 0 h0
  unfold wpOp at h1
  rw [e2] at h1
  simp only [Region.wanted, e6, if_true] at h1
  rcases h1 with h1 | ⟨_, h1⟩
  · have : (execOp a.eval o0).run P w = .ok (.value (a.eval src)) w := by unfold execOp; rw [e3]; rfl
    unfold Oper.wp at h1
    rw [this, Oper.upon_value, e4] at h1
    exact h1
  · exact absurd h1 hno
end
section
variable {P : Program} {K : Kn} {w0 : World} {X : Ownr} {n : Nat} {σ : AS} {Q : Exit -> AS -> Prop} {ops : Array Oper} {d : Nat} {src : Operand}
theorem AWP.drawF {o0 : Oper} {l l' : List Oper} (hops : ops.toList = o0 :: l) (hI : FlL P d src l l') (hop : o0.op = .move src) (hdd : o0.dst = some d) (haf : o0.after.toList = []) (hg : o0.guard = none) (hsd : src ≠ .tmp d) (hm : P.follows .mixedOrders = true) (hX : X.Ok w0) (hK : KnOk P X.G K) {id : Nat} (m : Nat)
    (hB : zh9 (o0 :: l').toArray m = true) {r1 r2 : List Prop × AS} (h1 : zhd K n (o0 :: l').toArray ((o0 :: l').take m) σ = some r1) (h2 : aSeq K n (o0 :: l').toArray ((o0 :: l').drop m) r1.2 = some r2)
    (hp1 : allP r1.1) (hp2 : allP r2.1) (hq : Q .normal r2.2) (hd : zbm ops.toList = true := by rfl) : AWP P w0 X n (.region id ops true) σ Q := fun β a w h =>
  Go.wpIn_mono (wpIn_region_any hm (zbg (R := fun e a w => e = .normal ∧ ∃ β', Sim w0 X n r2.2 β' a w) zd2 hd _ (
    zon (FlOk.of hops hop hdd haf hg hI) hsd zd2 (fun _ _ _ h => h.1) (zk6 hK hX h hB h1 h2 hp1 hp2 fun β' _ _ h' => ⟨rfl, β', h'⟩)))) fun e a w ⟨he, β', h'⟩ => by
      subst he; exact ⟨r2.2, β', h', hq⟩
end
section
variable {P : Program} {K : Kn} {w0 : World} {X : Ownr} {n : Nat} {F : List (Nat × V)} {E : Owns} {nx : Nat} {Q : Exit -> AS -> Prop} {ops : Array Oper}
theorem AL.litv {o : Oper} {rest : List Oper} (hgd : o.guard = none) (hnd : ∀ c, o.op ≠ .defer c) {d : Nat} (hd : o.dst = some d) (hdn : Nat.blt d n = true) (u : Value) (hrun : ∀ β a w, Sim w0 X n ⟨F, E, nx⟩ β a w -> (execOp a.eval o).run P w = .ok (.value u) w)
    (h : AL P w0 X n ops rest ⟨(d, ⟨.lit, u⟩) :: F, E, nx⟩ Q) : AL P w0 X n ops (o :: rest) ⟨F, E, nx⟩ Q :=
  AL.hand hgd hnd fun β a w hs => zmc hd hdn (v := ⟨.lit, u⟩) (Nat.zero_le _) (N := fun σ' => AL P w0 X n ops rest σ' Q) h hs (hrun β a w hs) rfl
end
abbrev u8 : Ty := .int .u8
abbrev i64 : Ty := .int .i64
abbrev bs : Ty := .slice u8
abbrev ints : Ty := .slice i64
abbrev nd : Ty := .pair i64 (.pair i64 (.pair i64 (.pair i64 (.pair i64 (.pair i64 (.pair ints (.pair .str .unit)))))))
abbrev tk : Ty := .pair i64 (.pair i64 (.pair i64 (.pair .str (.pair i64 .unit))))
abbrev ps : Ty := .pair .str (.pair tk (.pair (.slice nd) (.pair i64 .unit)))
abbrev de : Ty := .pair .str (.pair (.slice nd) .unit)
abbrev sto : Ty := .pair i64 (.pair i64 .unit)
abbrev gop : Ty := .pair .str (.pair i64 .unit)
abbrev lru : Ty := .pair i64 (.pair i64 (.pair .bool .unit))
abbrev cal : Ty := .pair i64 (.pair ints (.pair i64 (.pair (.slice lru) .unit)))
abbrev lims : Ty := .pair i64 (.pair i64 .unit)
abbrev shp : Ty := .pair i64 (.pair .bool (.pair lims .unit))
abbrev rtk : Ty := .pair i64 (.pair i64 (.pair .str (.pair i64 .unit)))
abbrev rps : Ty := .pair .str (.pair rtk (.pair i64 (.pair i64 (.pair i64 .unit))))
abbrev mkr : Ty := .pair ints (.pair i64 (.pair i64 (.pair i64 .unit)))
def gmT : Tbl := [(3, i64), (4, .bool), (5, u8), (9, .str), (103, bs), (2, i64), (25, i64), (135, i64), (34, ints), (73, nd), (23, .slice nd), (24, .slice nd), (37, de), (29, .slice de),
  (137, tk), (139, ps), (133, sto), (157, gop), (158, .slice gop), (129, lru), (61, .slice lru), (63, cal), (55, .slice cal), (64, .arr 3 cal),
  (122, lims), (124, shp), (125, .arr 19 shp), (83, rtk), (85, rps), (97, mkr), (51, .slice .str), (48, .slice ints)]
def gmQ : List TypeId := [122]
def gmU : UTbl := [(103, 5), (34, 3), (23, 73), (24, 73), (29, 37), (158, 157), (61, 129), (55, 63), (51, 9), (48, 34)]
def gmK : Kn := { T := gmT, Q := gmQ, U := gmU, C := [] }
set_option maxRecDepth 100000 in
theorem zgH : TOk Tryz.prog gmT gmQ := zpI (by kernel_rfl) (by kernel_rfl)
theorem zgG : UOk Tryz.prog gmU := zpr (by kernel_rfl)
def gmG (_ : World) : Prop := True
theorem dM : Tryz.prog.follows .mixedOrders = true := by kernel_rfl
theorem vI64 {x y : Int} (h : x = y) : (⟨i64, x⟩ : V) = ⟨i64, y⟩ := by rw [h]
theorem zcS {x y : Bool} (h : x = y) : (⟨.bool, x⟩ : V) = ⟨.bool, y⟩ := by rw [h]
theorem zdm (a b : Bool) : (bif a then b else false) = (a && b) := by cases a <;> rfl
theorem b_or (a b : Bool) : (bif a then true else b) = (a || b) := by cases a <;> rfl
theorem zaR {α : Type} {l : List α} {k : Nat} {z : α} (h : k < l.length) : l.getD (k : Int).toNat z = l[k] := by
  rw [Int.toNat_natCast, List.getD_eq_getElem?_getD, List.getElem?_eq_getElem h]
  rfl
theorem ze5 {t : Ty} {x y : t.T} (h : x = y) : some (OObj.box t x) = some (OObj.box t y) := by rw [h]
theorem zck : KnOk Tryz.prog gmG gmK := ⟨zgH, zgG, CsOk.nil, fun _ _ _ _ => trivial, RsOk.nil⟩
theorem RepV.anyβ {w : World} {O : Nat -> Prop} {β β' : Nat -> Value} : ∀ (t : Ty) (x : t.T) (v : Value), bnd t x = 0 -> RepV w O β t x v -> RepV w O β' t x v := by
  intro t
  induction t with
  | optr t _ => intro x v hb; cases hb
  | obuf t _ => intro x v hb; cases hb
  | hptr => intro x v hb; cases hb
  | hcons a b iha ihb =>
    rintro x v hb ⟨u, s, h1, h2, h3, h4⟩
    have hb : max (bnd a x.1) (bnd b x.2) = 0 := hb
    exact ⟨u, s, h1, h2, iha _ _ (by omega) h3, ihb _ _ (by omega) h4⟩
  | cond t ih => intro x v hb h; exact ⟨fun hc => ih _ _ hb (h.1 hc), h.2⟩
  | _ => intro x v hb h; exact h
theorem RepH.anyβ {w : World} {O : Nat -> Prop} {β β' : Nat -> Value} : ∀ {vs : List V} {cs : List Value}, (∀ v ∈ vs, v.bound = 0) -> RepH w O β vs cs -> RepH w O β' vs cs
  | [], _, _, h => h
  | v :: r, _, hb, ⟨u, s, h1, h2, h3, h4⟩ => ⟨u, s, h1, h2, RepV.anyβ _ _ _ (hb v (by simp)) h3, RepH.anyβ (fun y hy => hb y (by simp [hy])) h4⟩
def OObj.bare : OObj -> Bool
  | .hbox _ vs => vs.all fun v => Nat.beq v.bound 0
  | _ => true
theorem OwnRep.anyβ {w : World} {O : Nat -> Prop} {β β' : Nat -> Value} {B : Nat} {bv : Value} {o : OObj} (hb : o.bare = true) (h : OwnRep w O β B bv o) : OwnRep w O β' B bv o := by
  cases o with
  | box t x => exact h
  | buf te t xs => exact h
  | hbox ty vs =>
    obtain ⟨g, cs, e, h1, h2, h3⟩ := h
    have hb : (vs.all fun v => Nat.beq v.bound 0) = true := hb
    exact ⟨g, cs, e, h1, h2, h3.anyβ fun v hv => by have := List.all_eq_true.1 hb v hv; simpa using this⟩
theorem OObj.bare_under {o : OObj} (hb : o.bare = true) (k : Nat) : o.under k := by
  intro vs e v hv
  cases o with
  | box t x => cases e
  | buf te t xs => cases e
  | hbox ty ws =>
    have e : ws = vs := Option.some.inj e
    subst e
    have hb : (ws.all fun v => Nat.beq v.bound 0) = true := hb
    have := List.all_eq_true.1 hb v hv
    have : v.bound = 0 := by simpa using this
    omega
structure FCtr where
  args : List Ty
  pre : Args args -> List Prop
  obj : Args args -> OObj
def zli (P : Program) (G : World -> Prop) (f : FuncId) (c : FCtr) : Prop :=
  (∀ (zas : Array Value) (w : World), (callFunc f zas).run P w = .ok (.enter f zas) w) ∧
  ∀ (w : World) (O : Nat -> Prop) (xs : Args c.args) (vs : List Value), (∀ g, O g -> g < w.heap.size) -> RepA w O c.args xs vs -> allP (c.pre xs) -> G w ->
    Calls P f vs.toArray w fun e w' => ∃ g, e = .returned (.pointer (some ⟨g, 0, none⟩)) ∧ Below w.heap.size w w' ∧ w.heap.size ≤ g ∧ ∀ (O' : Nat -> Prop) (β : Nat -> Value), (∀ h, O' h -> O h ∨ h = g) -> OwnRep w' O' β 0 (.pointer (some ⟨g, 0, none⟩)) (c.obj xs)
def zmY (i : Nat) : OObj -> V
  | .box t _ => ⟨.optr t, ⟨i, t, .here⟩⟩
  | _ => ⟨.hptr, (i, (0 : Nat))⟩
def FDone (rs : List ResultVar) (σ : AS) (o : OObj) : Prop := ∃ s i, rs = [.tmp s] ∧ Frame.get σ.F s = zmY i o ∧ Owns.get σ.E i = some o
section
variable {P : Program} {K : Kn} {n : Nat}
theorem zkb {G : World -> Prop} (hK : KnOk P G K) {f : FuncId} {fn : Func} {c : Code} {ctr : FCtr} (hf : P.funcs[f]? = some fn) (hb : fn.body = some c) (hn : fn.ntmps = n)
    (hen : ∀ (zas : Array Value) (w : World), (callFunc f zas).run P w = .ok (.enter f zas) w) (hd : zaY ctr.args = true) (hlen : ctr.args.length ≤ n) (hbare : ∀ xs, (ctr.obj xs).bare = true ∧ (ctr.obj xs).isBuf = false)
    (h : ∀ (w0 : World) (X : Nat -> Prop), (Ownr.plain G X).Ok w0 -> ∀ xs : Args ctr.args, allP (ctr.pre xs) -> AWP P w0 (Ownr.plain G X) n c (zlZ ctr.args xs) (fun e σ => (e = .normal ∨ e = .ret) ∧ FDone fn.results.toList σ (ctr.obj xs))) : zli P G f ctr := by
  refine ⟨hen, fun w O xs vs hO hrep hp hG => calls_of_wp hf hb ?_⟩
  have hvl := zfV _ _ _ hrep
  let X : Ownr := Ownr.plain G O
  have hXR : ∀ g, ¬ X.R g := Ownr.plain_noR _ _
  have hX : X.Ok w := ⟨fun g hg => ⟨hO g hg, hXR g⟩, fun g hg => (hXR g hg).elim, fun w' hk => hK.st w w' hG (hk.below hXR)⟩
  have hsim : Sim w X n (zlZ ctr.args xs) (fun _ => undef) { tmps := vs.toArray ++ Array.replicate (fn.ntmps - vs.toArray.size) undef, defers := [] } w := by
    have hE : OSet X (zlZ ctr.args xs).E (fun _ => undef) = O := by
      funext g
      apply propext
      constructor
      · rintro (h | ⟨i, o, h, _⟩)
        · exact h
        · cases h
      · exact fun h => .inl h
    refine ⟨by simp [hn, hvl]; omega, rfl, Kept.refl _ _, fun s => ?_, fun i o h => (by cases h), fun i o g h => (by cases h), fun i j oi oj h => (by cases h), fun i o h => (by cases h), ⟨Nat.zero_le _, fun i h => (by cases h)⟩, fun s => ?_, fun i o h => (by cases h)⟩
    · rw [hE]
      have := zeW (β := fun _ => undef) ctr.args xs vs [] (List.replicate (fn.ntmps - vs.length) undef) hd hrep s
      simp only [List.nil_append, List.length_nil] at this
      have e : (vs.toArray ++ Array.replicate (fn.ntmps - vs.toArray.size) undef) = (vs ++ List.replicate (fn.ntmps - vs.length) undef).toArray := by simp
      show RepV w O _ _ _ ((vs.toArray ++ Array.replicate (fn.ntmps - vs.toArray.size) undef).getD s undef)
      rw [e]
      exact this
    · show (Frame.get (zes ctr.args xs 0) s).bound ≤ 0
      rw [zds _ _ _ _ hd]
      exact Nat.le_refl _
  refine wp_mono (wpIn_wide.1 (h w O hX xs hp _ _ _ hsim)) fun e a' w' ⟨σ', β', h1, h2, s, i, hrs, hs, hi⟩ => ?_
  have hb := h1.bel.below hXR
  have hown := h1.own i _ hi
  obtain ⟨g, hg⟩ : ∃ g, β' i = .pointer (some ⟨g, 0, none⟩) := by
    cases ho : ctr.obj xs with
    | buf te t ys => have := (hbare xs).2; rw [ho] at this; cases this
    | box t x => rw [ho] at hown; obtain ⟨g, _, _, e, _⟩ := hown; exact ⟨g, e⟩
    | hbox ty ys => rw [ho] at hown; obtain ⟨g, _, e, _⟩ := hown; exact ⟨g, e⟩
  have hv : a'.tmps.getD s undef = .pointer (some ⟨g, 0, none⟩) := by
    have hf := h1.fr s
    rw [hs] at hf
    have hbg : zag (β' i) = some g := by rw [hg]; rfl
    cases ho : ctr.obj xs with
    | buf te t ys => have := (hbare xs).2; rw [ho] at this; cases this
    | box t x =>
      rw [ho] at hf
      obtain ⟨g', e1, e2⟩ := hf
      have e1 : zag (β' i) = some g' := e1
      rw [hbg] at e1
      cases e1
      exact e2
    | hbox ty ys =>
      rw [ho] at hf
      obtain ⟨g', e1, e2⟩ := hf
      have e1 : zag (β' i) = some g' := e1
      rw [hbg] at e1
      cases e1
      exact e2
  have hres : (results fn a'.tmps).run P w' = .ok (.pointer (some ⟨g, 0, none⟩)) w' := by
    rw [zhl]
    have hm : (fn.results.mapM (resM a'.tmps)).run P w' = .ok [a'.tmps.getD s undef].toArray w' := by
      rw [Array.mapM_eq_mapM_toList, hrs]
      simp [resM]
    rw [Sem.run_bind, hm, hv]
    simp
  have hng : w.heap.size ≤ g := by
    rcases h1.new i _ g hi (by rw [hg]; rfl) with h3 | h3
    · exact h3
    · exact (hXR g h3).elim
  have hfin : ∀ (O' : Nat -> Prop) (β : Nat -> Value), (∀ h, O' h -> O h ∨ h = g) -> OwnRep w' O' β 0 (.pointer (some ⟨g, 0, none⟩)) (ctr.obj xs) := fun O' β hO' => by
    rw [hg] at hown
    refine OwnRep.anyβ (hbare xs).1 (hown.keep ⟨Nat.le_refl _, fun _ _ _ => rfl, fun k _ hk => ?_⟩ fun _ _ => rfl)
    rcases hO' k hk with h3 | rfl
    · exact .inl h3
    · exact .inr ⟨i, _, hi, by rw [hg]; rfl⟩
  rcases h2 with rfl | rfl
  · exact ⟨h1.df, _, hres, g, rfl, hb, hng, hfin⟩
  · exact ⟨h1.df, _, hres, g, rfl, hb, hng, hfin⟩
end
section
variable {P : Program} {K : Kn} {w0 : World} {X : Ownr} {n : Nat} {σ : AS} {Q : Exit -> AS -> Prop} {ops : Array Oper}
theorem AL.fresh (hX : X.Ok w0) {o : Oper} {rest : List Oper} {f : FuncId} {c : FCtr} (hc : zli P X.G f c) {args : Array Operand} {ts : Array TypeId} (ho : o.op = .call ⟨.value (.func f), args, ts⟩) {zas : List Operand} (hargs : args.toList = zas) (hgd : o.guard = none)
    {F : Frame} {E : Owns} {nx : Nat} (hσ : frzs σ zas = ⟨F, E, nx⟩) (hd : zaY c.args = true) {q : List Prop} {xs : Args c.args} (hav : zdU E false (zas.map (evO F)) c.args = some (q, xs)) (hq : allP q) (hpre : allP (c.pre xs))
    (hbare : (c.obj xs).bare = true ∧ (c.obj xs).isBuf = false) {d : Nat} (hdst : o.dst = some d) (hdn : Nat.blt d n = true) (h : AL P w0 X n ops rest ⟨(d, zmY nx (c.obj xs)) :: F, (nx, some (c.obj xs)) :: E, nx + 1⟩ Q) : AL P w0 X n ops (o :: rest) σ Q := by
  refine AL.hand hgd (fun c e => by rw [ho] at e; cases e) fun β a w hs => ?_
  have h1 := hs.frzs hX zas
  rw [hσ] at h1
  obtain ⟨hen, hcall⟩ := hc
  have hvs : RepVs w (OSet X E β) β (zas.map (evO F)) (zas.map a.eval) := by
    refine ⟨by simp, fun i v hv => ?_⟩
    rw [List.getElem?_map] at hv
    obtain ⟨z, hz, rfl⟩ := Option.map_eq_some_iff.1 hv
    exact ⟨a.eval z, by rw [List.getElem?_map, hz]; rfl, h1.ops z⟩
  have ha := zcC (B := 0) h1.own hd hav hq hvs.2 hvs.1
  have ha : RepA w (OSet X E β) c.args xs (zas.map a.eval) := by
    have e : (fun k => false = false ∧ OSet X E β k) = OSet X E β := by funext k; simp
    rwa [e] at ha
  refine zew ho hen ?_
  rw [hargs]
  refine (hcall w _ xs _ (fun k hk => h1.hO hX k hk) ha hpre (hX.2.2 w h1.bel)).mono fun e w' ⟨g, he, hb, hng, hown⟩ => ?_
  refine ⟨_, he, ?_⟩
  have hlt : d < n := by simpa using hdn
  rw [hdst]
  obtain ⟨β', h2⟩ := h1.make hX hb (bv := .pointer (some ⟨g, 0, none⟩)) (o := c.obj xs) (fun O β' hO => hown O β' fun k hk => (hO k hk).imp id fun e => (Option.some.inj e).symm) (fun k hk => by
    have : g = k := by simpa [zag] using hk
    omega) (v := zmY nx (c.obj xs)) (u := .pointer (some ⟨g, 0, none⟩)) (fun O β' hβ => by
      have hbg : zag (β' nx) = some g := by rw [show β' nx = _ from hβ]; rfl
      cases ho : c.obj xs with
      | buf te t ys => have := hbare.2; rw [ho] at this; cases this
      | box t x => exact ⟨g, hbg, rfl⟩
      | hbox ty ys => exact ⟨g, hbg, rfl⟩) (by
      cases ho : c.obj xs with
      | buf te t ys => have := hbare.2; rw [ho] at this; cases this
      | box t x => exact Nat.le_refl _
      | hbox ty ys => exact Nat.le_refl _) hlt (OObj.bare_under hbare.1 _)
  exact ⟨_, β', h2, h⟩
end
def LEnd (c : HCtr) (w w' : World) (O : Nat -> Prop) (e : Ending) : Except Value c.res.T -> Prop
  | .ok y => ∃ v, e = .returned v ∧ (c.res = .unit ∨ zc2 w' O w.heap.size none c.res y v)
  | .error pv => e = .panicked [{ v := pv, recovered := false }]
def ze9 (P : Program) (G : World -> Prop) (f : FuncId) (c : HCtr) (out : c.self.T -> Args c.args -> Except Value c.res.T) : Prop :=
  (∀ (zas : Array Value) (w : World), (callFunc f zas).run P w = .ok (.enter f zas) w) ∧ c.law ∧
  ∀ (w : World) (O : Nat -> Prop) (g : Nat) (cs : List Value) (ty : TypeId) (x : c.self.T) (xs : Args c.args) (vs : List Value) (b : Value), (∀ h, O h -> h < w.heap.size ∧ h ≠ g ∧ zag b ≠ some h) -> zag b ≠ some g -> w.heap[g]? = some (.cells cs.toArray ty (0, 0)) ->
    RepH w (zbj O g b) (zcv g b) (c.lv 0 1 x) cs -> OwnRep w (zbj O g b) (zcv g b) 0 b (.buf c.te c.et (c.sl x)) -> RepA w (zbj O g b) c.args xs vs -> allP (c.pre x xs) -> c.inv w (fun h => h = g ∨ zag b = some h) ty -> G w ->
    Calls P f (Value.pointer (some ⟨g, 0, none⟩) :: vs).toArray w fun e w' => Kept (fun h => h = g ∨ zag b = some h) w w' ∧ LEnd c w w' O e (out x xs)
def LDone (T : Tbl) (rs : List ResultVar) (t : Ty) (e : Exit) (σ : AS) : Except Value t.T -> Prop
  | .ok y => (e = .normal ∨ e = .ret) ∧ Done T rs ⟨σ.F, zeS [] σ.E, σ.nx⟩ none t y
  | .error pv => e = .panic [{ v := pv, recovered := false }]
section
variable {P : Program} {K : Kn} {n : Nat}
theorem zgA {G : World -> Prop} (hK : KnOk P G K) {f : FuncId} {fn : Func} {c : Code} {ctr : HCtr} {out : ctr.self.T -> Args ctr.args -> Except Value ctr.res.T} (hf : P.funcs[f]? = some fn) (hb : fn.body = some c) (hn : fn.ntmps = n) (hlaw : ctr.law)
    (hen : ∀ (zas : Array Value) (w : World), (callFunc f zas).run P w = .ok (.enter f zas) w) (hd : zaY ctr.args = true) (hlen : ctr.args.length + 1 ≤ n) (hst : ∀ w w' R ty, ctr.inv w R ty -> G w -> Kept R w w' -> G w')
    (h : ∀ (w0 : World) (X : Ownr) (ty : TypeId), X.Ok w0 -> X.G = G -> X.K = 1 -> X.ρ = none -> X.D = [] -> ctr.inv w0 X.R ty -> ∀ (x : ctr.self.T) (xs : Args ctr.args), allP (ctr.pre x xs) ->
      AWP P w0 X n c (zjc ctr ty x xs) (fun e σ => LDone K.T fn.results.toList ctr.res e σ (out x xs))) : ze9 P G f ctr out := by
  refine ⟨hen, hlaw, fun w O g cs ty x xs vs b hO hgb hg hx hbuf hrep hp hinv hG => calls_of_wp hf hb ?_⟩
  obtain ⟨X, hXd, hX, hXR, hsim⟩ := zqS (ctr := ctr) (G := G) hn hlaw hd hlen hst hO hgb hg hx hbuf hrep hinv hG
  have hXX : X.X = O := by rw [hXd]
  have hinv' : ctr.inv w X.R ty := by
    rw [show X.R = fun h => h = g ∨ zag b = some h from funext fun h => propext (hXR h)]
    exact hinv
  have hw := h w X ty hX (by rw [hXd]) (by rw [hXd]) (by rw [hXd]) (by rw [hXd]) hinv' x xs hp _ _ _ hsim
  rw [show X.ρ = none by rw [hXd]] at hw
  refine wp_mono (wpIn_wide.1 hw) fun e a' w' ⟨σ', β', h1, h2⟩ => ?_
  have hbk : Kept (fun h => h = g ∨ zag b = some h) w w' := ⟨h1.bel.os, h1.bel.tape, h1.bel.output, h1.bel.size, fun k hk hr => h1.bel.block k hk fun hr' => hr ((hXR k).1 hr')⟩
  have hdf : a'.defers = [] := by rw [h1.df, hXd]
  revert h2
  cases ho : out x xs with
  | error pv =>
    rintro rfl
    exact ⟨hdf, hbk, rfl⟩
  | ok y =>
    rintro ⟨h2, h3⟩
    obtain ⟨v, h4, h5⟩ := zjp (X := X) (by rw [show X.G = G by rw [hXd]]; exact hK) hX h1 [] h3 (O' := O) (fun k hk => .inl (by rw [hXX]; exact hk))
    rcases h2 with rfl | rfl
    · exact ⟨hdf, v, h4, hbk, v, rfl, h5⟩
    · exact ⟨hdf, v, h4, hbk, v, rfl, h5⟩
end
section
variable {P : Program} {K : Kn} {w0 : World} {X : Ownr} {n : Nat} {σ : AS} {Q : Exit -> AS -> Prop} {ops : Array Oper}
theorem AL.give (hX : X.Ok w0) {o : Oper} {rest : List Oper} {f : FuncId} {c : HCtr} {out : c.self.T -> Args c.args -> Except Value c.res.T} (hc : ze9 P X.G f c out) {args : Array Operand} {ts : Array TypeId} {a0 : Operand} {zas : List Operand} (ho : o.op = .call ⟨.value (.func f), args, ts⟩) (hargs : args.toList = a0 :: zas) (hgd : o.guard = none)
    {F : Frame} {E : Owns} {nx : Nat} (hσ : frzs σ zas = ⟨F, E, nx⟩) {i : Nat} (hev : evO F a0 = ⟨.hptr, (i, (0 : Nat))⟩) {ty : TypeId} {vs : List V} (hbox : Owns.get E i = some (.hbox ty vs)) {et : Ty} {j : Nat} (hk : vs[c.k]? = some ⟨.obuf et, j⟩) {xsl : List c.et.T} (hbuf : Owns.get E j = some (.buf c.te c.et xsl))
    {x : c.self.T} (hun : unD c.self ((c.back i vs).set c.k ⟨.slice c.et, xsl⟩) = some (x, [])) (hd : zaY c.args = true) (hfl : c.res.resOk = true)
    {q : List Prop} {xs : Args c.args} (hav : zdU E false (zas.map (evO F)) c.args = some (q, xs)) (hq : allP q) (hpre : allP (c.pre x xs)) (hinv : ∀ w R, (∀ g, R g -> w0.heap.size ≤ g ∨ X.R g) -> X.G w -> c.inv w R ty) {d : Nat} (hdst : o.dst = some d) (hdn : Nat.blt d n = true)
    (h : match out x xs with
      | .ok y => AL P w0 X n ops rest ⟨(d, resV c.res y) :: F, (i, none) :: (j, none) :: E, nx⟩ Q
      | .error pv => Q (.panic [{ v := pv, recovered := false }]) ⟨F, (i, none) :: (j, none) :: E, nx⟩) : AL P w0 X n ops (o :: rest) σ Q := by
  refine AL.hand hgd (fun c e => by rw [ho] at e; cases e) fun β a w hs => ?_
  have h1 := hs.frzs hX zas
  rw [hσ] at h1
  obtain ⟨hen, hlaw, hcall⟩ := hc
  have hunH : unH c i vs E x := ⟨et, j, xsl, hk, hbuf, hun⟩
  have hsl : xsl = c.sl x := by
    obtain ⟨et', j', k1, k2, _, _⟩ := zdY hlaw hunH
    rw [hk] at k1
    cases k1
    rw [hbuf] at k2
    cases k2
    rfl
  subst hsl
  have hv := h1.ops a0
  rw [show evO (AS.mk F E nx).F a0 = _ from hev] at hv
  obtain ⟨g, hg1, hg2⟩ := hv
  obtain ⟨g', cs, e1, _, e3, e4⟩ := h1.own _ _ hbox
  have hgg : g' = g := by
    have hg1 : zag (β i) = some g := hg1
    rw [e1] at hg1
    simpa [zag] using hg1
  subst hgg
  have hij : i ≠ j := fun e => by rw [e, hbuf] at hbox; cases hbox
  have hbj := h1.own _ _ hbuf
  have hOg : OSet X E β g' := .inr ⟨_, _, hbox, by rw [e1]; rfl⟩
  have hgb : zag (β j) ≠ some g' := h1.inj i j _ _ hbox hbuf hij g' (by rw [e1]; rfl)
  obtain ⟨O, hO⟩ : ∃ O : Nat -> Prop, O = fun k => OSet X E β k ∧ k ≠ g' ∧ zag (β j) ≠ some k := ⟨_, rfl⟩
  have hset : zbj O g' (β j) = OSet X E β := by
    funext k
    apply propext
    rw [hO]
    constructor
    · rintro ((hk | rfl) | hk)
      · exact hk.1
      · exact hOg
      · exact .inr ⟨j, _, hbuf, hk⟩
    · intro hk
      by_cases e : k = g'
      · exact .inl (.inr e)
      · by_cases e' : zag (β j) = some k
        · exact .inr e'
        · exact .inl (.inl ⟨hk, e, e'⟩)
  have hvs : RepVs w (OSet X E β) β (zas.map (evO F)) (zas.map a.eval) := by
    refine ⟨by simp, fun i v hv => ?_⟩
    rw [List.getElem?_map] at hv
    obtain ⟨z, hz, rfl⟩ := Option.map_eq_some_iff.1 hv
    exact ⟨a.eval z, by rw [List.getElem?_map, hz]; rfl, h1.ops z⟩
  have ha := zcC (B := 0) h1.own hd hav hq hvs.2 hvs.1
  have ha : RepA w (zbj O g' (β j)) c.args xs (zas.map a.eval) := by
    rw [hset]
    have e : (fun k => false = false ∧ OSet X E β k) = OSet X E β := by funext k; simp
    rwa [e] at ha
  have hK0 : Keeps w w (OSet X E β) (zbj O g' (β j)) := by rw [hset]; exact Keeps.refl _ _
  have hlv : RepH w (zbj O g' (β j)) (zcv g' (β j)) (c.lv 0 1 x) cs := RepH.toLv hlaw hK0 hunH e4 (fun j' et' hj' => by
    rw [hk] at hj'
    cases hj'
    rfl) (by rw [e1]; rfl)
  have hbuf2 : OwnRep w (zbj O g' (β j)) (zcv g' (β j)) 0 (β j) (.buf c.te c.et (c.sl x)) := hbj.keep hK0 fun _ _ => rfl
  have hOk : ∀ k, O k -> k < w.heap.size ∧ k ≠ g' ∧ zag (β j) ≠ some k := fun k hk => by
    rw [hO] at hk
    exact ⟨h1.hO hX k hk.1, hk.2⟩
  have hR : ∀ k, (k = g' ∨ zag (β j) = some k) -> w0.heap.size ≤ k ∨ X.R k := fun k hk => by
    rcases hk with rfl | hk
    · exact h1.new _ _ k hbox (by rw [e1]; rfl)
    · exact h1.new _ _ k hbuf hk
  have hcl := hcall w O g' cs ty x xs _ (β j) hOk hgb e3 hlv hbuf2 ha hpre (hinv w _ hR (hX.2.2 w h1.bel)) (hX.2.2 w h1.bel)
  have hrun : (execOp a.eval o).run P w = .ok (.enter f (Value.pointer (some ⟨g', 0, none⟩) :: zas.map a.eval).toArray) w := by
    have em : args.map a.eval ++ #[] = (Value.pointer (some ⟨g', 0, none⟩) :: zas.map a.eval).toArray := by
      rw [<- zcU, hargs, List.map_cons, hg2]
      simp
    have hx : a.eval (.func f) = .func (.func f) #[] #[] := rfl
    rw [<- em]
    unfold execOp
    simp [ho, resolve, invoke, Deferred.ofValue, hx, hen]
  unfold Oper.wp
  rw [hrun]
  refine hcl.mono fun e w' hr => ?_
  obtain ⟨hkp, hr⟩ := hr
  have hl2 := h1.lose2 (w' := w') hbox hbuf ⟨hkp.os, hkp.tape, hkp.output, hkp.size, fun k hkl hn => hkp.block k hkl fun hk => hn (hk.elim (fun e => .inl (by rw [e1, e]; rfl)) .inr)⟩
  revert hr h
  cases out x xs with
  | error pv =>
    intro h
    rintro rfl
    exact ⟨fun e => (by cases e), _, β, hl2, h⟩
  | ok y =>
    intro h
    rintro ⟨v, rfl, hres⟩
    have hlt : d < n := by simpa using hdn
    have hkp2 : Keeps w' w' O (OSet X ((i, none) :: (j, none) :: E) β) := ⟨Nat.le_refl _, fun _ _ _ => rfl, fun k _ hk2 => by
      rw [hO]
      rcases hk2 with hk2 | ⟨m, om, hm, hbm⟩
      · have h3 := hX.1 k hk2
        refine ⟨.inl hk2, fun e => ?_, fun e => ?_⟩
        · rcases hR k (.inl e) with h4 | h4
          · omega
          · exact h3.2 h4
        · rcases hR k (.inr e) with h4 | h4
          · omega
          · exact h3.2 h4
      · rw [zaf, zaf] at hm
        by_cases him : i = m
        · rw [if_pos him] at hm; cases hm
        · rw [if_neg him] at hm
          by_cases hjm : j = m
          · rw [if_pos hjm] at hm; cases hm
          · rw [if_neg hjm] at hm
            refine ⟨.inr ⟨m, om, hm, hbm⟩, fun e => ?_, fun e => ?_⟩
            · exact h1.inj i m _ om hbox hm him k (by rw [e1, e]; rfl) hbm
            · exact h1.inj j m _ om hbuf hm hjm k e hbm⟩
    show ∃ σ' β', Sim w0 X n σ' β' (a.put o.dst v) w' ∧ _
    rw [hdst]
    exact ⟨_, β, hl2.put (Below.refl _ _) (RepV.keep hkp2 _ _ _ (zeH (β := β) _ hfl hres)) (zdq _ hfl _) hlt, h⟩
theorem AL.guardT (j s : Nat) (b : Bool) {o : Oper} {rest : List Oper} (hg : o.guard = some (j, b)) (hd : (ops[j]?).bind (·.dst) = some s) (hs : Frame.get σ.F s = ⟨.bool, b⟩) (hsn : Nat.blt s n = true) (h : AL P w0 X n ops ({ o with guard := none } :: rest) σ Q) : AL P w0 X n ops (o :: rest) σ Q := by
  intro β a w hsim
  have h1 := h β a w hsim
  have hv : a.tmps.getD s undef = .bool b := by
    have h2 := hsim.fr s
    rw [hs] at h2
    exact RepV.bool h2
  have hsz : s < a.tmps.size := by rw [hsim.sz]; simpa using hsn
  have hy : yielded ops a.tmps j = some b := by
    unfold yielded
    rw [hd]
    have : a.tmps[s]? = some (.bool b) := by
      rw [Array.getD_eq_getD_getElem?, Array.getElem?_eq_getElem hsz] at hv
      rw [Array.getElem?_eq_getElem hsz]
      exact congrArg some hv
    simp [this]
  have hw : Region.wanted o (yielded ops a.tmps) = true := by simp [Region.wanted, hg, hy]
  have hw' : Region.wanted { o with guard := none } (yielded ops a.tmps) = true := by simp [Region.wanted]
  show if Region.wanted o (yielded ops a.tmps) = true then _ else _
  have h1 : if Region.wanted { o with guard := none } (yielded ops a.tmps) = true then _ else _ := h1
  rw [if_pos hw'] at h1
  rw [if_pos hw]
  exact h1
theorem AL.guardF (j s : Nat) (b : Bool) (t : Ty) (y : t.T) {o : Oper} {rest : List Oper} (hg : o.guard = some (j, b)) (hd : (ops[j]?).bind (·.dst) = some s) (hs : Frame.get σ.F s = ⟨.bool, !b⟩) (hsn : Nat.blt s n = true) {d : Nat} (hdst : o.dst = some d) (hdn : Nat.blt d n = true) (h : AL P w0 X n ops rest ⟨(d, ⟨.cond t, (false, y)⟩) :: σ.F, σ.E, σ.nx⟩ Q) (hb : bnd t y = 0 := by rfl) : AL P w0 X n ops (o :: rest) σ Q := by
  intro β a w hsim
  have hv : a.tmps.getD s undef = .bool (!b) := by
    have h2 := hsim.fr s
    rw [hs] at h2
    exact RepV.bool h2
  have hsz : s < a.tmps.size := by rw [hsim.sz]; simpa using hsn
  have hy : yielded ops a.tmps j = some (!b) := by
    unfold yielded
    rw [hd]
    have : a.tmps[s]? = some (.bool (!b)) := by
      rw [Array.getD_eq_getD_getElem?, Array.getElem?_eq_getElem hsz] at hv
      rw [Array.getElem?_eq_getElem hsz]
      exact congrArg some hv
    simp [this]
  have hw : ¬ Region.wanted o (yielded ops a.tmps) = true := by simp [Region.wanted, hg, hy]
  show if Region.wanted o (yielded ops a.tmps) = true then _ else _
  rw [if_neg hw]
  refine ⟨fun f _ => zfT _ f, ?_⟩
  rw [hdst]
  exact h _ _ _ (hsim.put (Below.refl _ _) (v := ⟨.cond t, (false, y)⟩) ⟨fun h => (by cases h), fun _ => rfl⟩ (by rw [show V.bound ⟨.cond t, (false, y)⟩ = bnd t y from rfl, hb]; exact Nat.zero_le _) (by simpa using hdn))
theorem AL.ownV (hX : X.Ok w0) {o : Oper} {rest : List Oper} {f : FuncId} {c : HCtr} (hc : zaA P X.G f c) {y a0 : Operand} {args : Array Operand} {ts : Array TypeId} (ho : o.op = .call ⟨.value y, args, ts⟩) (hargs : args = #[a0]) (hgd : o.guard = none)
    {F : Frame} {E : Owns} {nx : Nat} (hy : evO F y = ⟨.lit, .func (.func f) #[] #[]⟩)
    {i : Nat} (hev : evO F a0 = ⟨.hptr, (i, (0 : Nat))⟩) {ty : TypeId} {vs : List V} (hbox : Owns.get E i = some (.hbox ty vs)) {et : Ty} {j : Nat} (hk : vs[c.k]? = some ⟨.obuf et, j⟩) {xsl : List c.et.T} (hbuf : Owns.get E j = some (.buf c.te c.et xsl))
    {x : c.self.T} (hun : unD c.self ((c.back i vs).set c.k ⟨.slice c.et, xsl⟩) = some (x, [])) (hd : zaY c.args = true) (hfl : c.res.resOk = true)
    {q : List Prop} {xs : Args c.args} (hav : zdU E false [] c.args = some (q, xs)) (hq : allP q) (hpre : allP (c.pre x xs)) (hinv : ∀ w R, (∀ g, R g -> w0.heap.size ≤ g ∨ X.R g) -> X.G w -> c.inv w R ty) {F' : c.res.T -> Frame} (hput : ∀ y, putD n o.dst (resV c.res y) (Frame.kill j F) = some (F' y))
    (h : zkr (fun y x' => AL P w0 X n ops rest ⟨F' y, (i, some (.hbox ty (c.lv i j x'))) :: (j, some (.buf c.te c.et (c.sl x'))) :: Owns.kill j E, nx⟩ Q) (fun pv => Q (.panic [{ v := pv, recovered := false }]) ⟨F, (i, none) :: (j, none) :: E, nx⟩) (c.out x xs)) : AL P w0 X n ops (o :: rest) ⟨F, E, nx⟩ Q :=
  AL.hand hgd (fun c e => by rw [ho] at e; cases e) (zjf hX hc (a0 := a0) (zas := []) (fun β a w hs hen => by
    have h1 : a.eval y = .func (.func f) #[] #[] := by
      have h1 := hs.ops y
      rw [show evO (frzs ⟨F, E, nx⟩ []).F y = _ from hy] at h1
      exact h1
    unfold execOp
    simp [ho, hargs, resolve, invoke, Deferred.ofValue, h1, hen]) rfl hev hbox hk hbuf hun hd hfl hav hq hpre hinv hput (N := fun σ' => AL P w0 X n ops rest σ' Q) h)
theorem zhT {t kt et : TypeId} {kd : TypeDesc} (hu : P.underlying t = some (.map kt et)) (hk : P.underlying kt = some kd) (hp : zcx kd = true) {w : World} {r ck : Nat} {ms : Array MapEntry} (h : w.heap[r]? = some (.map ms ck)) {key v : Value}
    (hf : zeY kd key (ms.toList.map fun e => (e.key, e.val)) = some (some v)) : (Instr.lookup t (.map (some r)) key true).run P w = .ok (.tuple #[v, .bool true]) w := by
  rw [<- zeZ kd key ms.toList 0] at hf
  obtain ⟨o, ho, hf⟩ := Option.map_eq_some_iff.1 hf
  obtain ⟨⟨i, v'⟩, rfl, rfl⟩ := Option.map_eq_some_iff.1 hf
  simp [Instr.lookup, Instr.findKey, run_underlying hu, run_underlying hk, zfe h, zdH _ hk hp, ho]
theorem zgf {t kt et : TypeId} {kd : TypeDesc} (hu : P.underlying t = some (.map kt et)) (hk : P.underlying kt = some kd) (hp : zcx kd = true) {w : World} {r ck : Nat} {ms : Array MapEntry} (h : w.heap[r]? = some (.map ms ck)) {key z : Value}
    (hf : zeY kd key (ms.toList.map fun e => (e.key, e.val)) = some none) (hz : (zeroValue et).run P w = .ok z w) : (Instr.lookup t (.map (some r)) key true).run P w = .ok (.tuple #[z, .bool false]) w := by
  rw [<- zeZ kd key ms.toList 0] at hf
  obtain ⟨o, ho, hf⟩ := Option.map_eq_some_iff.1 hf
  cases o with
  | some x => cases hf
  | none => simp [Instr.lookup, Instr.findKey, run_underlying hu, run_underlying hk, zfe h, zdH _ hk hp, ho, hz]
theorem znc {t kt et : TypeId} {kd : TypeDesc} (hu : P.underlying t = some (.map kt et)) (hk : P.underlying kt = some kd) (hp : zcx kd = true) {o : Oper} {m k : Operand} {d : Nat} {es : List (Value × Value)} {key z : Value} (ho : o.op = .lookup t m k true) (hdst : o.dst = some d) (hd : Nat.blt d n = true)
    (hm : evO σ.F m = ⟨.mapL, es⟩) (hkey : ∀ β a w, Sim w0 X n σ β a w -> a.eval k = key) (hz : ∀ w, (zeroValue et).run P w = .ok z w) {r : Option Value} (hf : zeY kd key es = some r) {N : AS -> Prop} (h : N ⟨(d, ⟨.lit, .tuple #[r.getD z, .bool r.isSome]⟩) :: σ.F, σ.E, σ.nx⟩)
    (β : Nat -> Value) (a : Act) (w : World) (hs : Sim w0 X n σ β a w) : o.wp P a w (fun a' w' => ∃ σ' β', Sim w0 X n σ' β' a' w' ∧ N σ') (fun e a' w' => e ≠ .outgrown ∧ ∃ σ' β', Sim w0 X n σ' β' a' w' ∧ Q e σ') := by
  have hd' : d < n := by simpa using hd
  have h1 := hs.ops m
  rw [hm] at h1
  obtain ⟨r0, ms, ck, h2, _, _, h3, h4⟩ := h1
  refine zbq (u := .tuple #[r.getD z, .bool r.isSome]) (w' := w) ?_ ?_
  · unfold execOp
    simp only [ho]
    rw [h2, hkey β a w hs]
    cases r with
    | some v => exact zdG (zhT hu hk hp h3 (by rw [h4]; exact hf))
    | none => exact zdG (zgf hu hk hp h3 (by rw [h4]; exact hf) (hz w))
  · rw [hdst]
    exact ⟨_, β, hs.put (Below.refl _ _) (v := ⟨.lit, .tuple #[r.getD z, .bool r.isSome]⟩) rfl (Nat.zero_le _) hd', h⟩
theorem znR {o : Oper} {x : Operand} {d : Nat} {v b : Value} (ho : o.op = .extract x 0) (hdst : o.dst = some d) (hd : Nat.blt d n = true) (hx : evO σ.F x = ⟨.lit, .tuple #[v, b]⟩) {N : AS -> Prop} (h : N ⟨(d, ⟨.lit, v⟩) :: σ.F, σ.E, σ.nx⟩)
    (β : Nat -> Value) (a : Act) (w : World) (hs : Sim w0 X n σ β a w) : o.wp P a w (fun a' w' => ∃ σ' β', Sim w0 X n σ' β' a' w' ∧ N σ') (fun e a' w' => e ≠ .outgrown ∧ ∃ σ' β', Sim w0 X n σ' β' a' w' ∧ Q e σ') := by
  have hd' : d < n := by simpa using hd
  have hv : a.eval x = .tuple #[v, b] := by
    have h5 := hs.ops x
    rw [hx] at h5
    exact h5
  refine zbq (u := v) (w' := w) ?_ ?_
  · unfold execOp
    simp only [ho, hv]
    exact zdG (by simp [Instr.extract])
  · rw [hdst]
    exact ⟨_, β, hs.put (Below.refl _ _) (v := ⟨.lit, v⟩) rfl (Nat.zero_le _) hd', h⟩
theorem znQ {o : Oper} {x : Operand} {d : Nat} {v : Value} {b : Bool} (ho : o.op = .extract x 1) (hdst : o.dst = some d) (hd : Nat.blt d n = true) (hx : evO σ.F x = ⟨.lit, .tuple #[v, .bool b]⟩) {N : AS -> Prop} (h : N ⟨(d, ⟨.bool, b⟩) :: σ.F, σ.E, σ.nx⟩)
    (β : Nat -> Value) (a : Act) (w : World) (hs : Sim w0 X n σ β a w) : o.wp P a w (fun a' w' => ∃ σ' β', Sim w0 X n σ' β' a' w' ∧ N σ') (fun e a' w' => e ≠ .outgrown ∧ ∃ σ' β', Sim w0 X n σ' β' a' w' ∧ Q e σ') := by
  have hd' : d < n := by simpa using hd
  have hv : a.eval x = .tuple #[v, .bool b] := by
    have h5 := hs.ops x
    rw [hx] at h5
    exact h5
  refine zbq (u := .bool b) (w' := w) ?_ ?_
  · unfold execOp
    simp only [ho, hv]
    exact zdG (by simp [Instr.extract])
  · rw [hdst]
    exact ⟨_, β, hs.put (Below.refl _ _) (v := ⟨.bool, b⟩) RepV.ofBool (Nat.zero_le _) hd', h⟩
theorem AL.look2 {t kt et : TypeId} {kd : TypeDesc} (hu : P.underlying t = some (.map kt et)) (hk : P.underlying kt = some kd) (hp : zcx kd = true) {o : Oper} {rest : List Oper} {m k : Operand} {d : Nat} {es : List (Value × Value)} {key z : Value} (ho : o.op = .lookup t m k true) (hg : o.guard = none) (hdst : o.dst = some d) (hd : Nat.blt d n = true)
    (hm : evO σ.F m = ⟨.mapL, es⟩) (hkey : ∀ β a w, Sim w0 X n σ β a w -> a.eval k = key) (hz : ∀ w, (zeroValue et).run P w = .ok z w) {r : Option Value} (hf : zeY kd key es = some r) (h : AL P w0 X n ops rest ⟨(d, ⟨.lit, .tuple #[r.getD z, .bool r.isSome]⟩) :: σ.F, σ.E, σ.nx⟩ Q) : AL P w0 X n ops (o :: rest) σ Q :=
  AL.hand hg (fun c e' => by rw [ho] at e'; cases e') (znc hu hk hp ho hdst hd hm hkey hz hf (N := fun σ' => AL P w0 X n ops rest σ' Q) h)
theorem AL.ext0 {o : Oper} {rest : List Oper} {x : Operand} {d : Nat} {v b : Value} (ho : o.op = .extract x 0) (hg : o.guard = none) (hdst : o.dst = some d) (hd : Nat.blt d n = true) (hx : evO σ.F x = ⟨.lit, .tuple #[v, b]⟩) (h : AL P w0 X n ops rest ⟨(d, ⟨.lit, v⟩) :: σ.F, σ.E, σ.nx⟩ Q) : AL P w0 X n ops (o :: rest) σ Q :=
  AL.hand hg (fun c e' => by rw [ho] at e'; cases e') (znR ho hdst hd hx (N := fun σ' => AL P w0 X n ops rest σ' Q) h)
theorem AL.ext1 {o : Oper} {rest : List Oper} {x : Operand} {d : Nat} {v : Value} {b : Bool} (ho : o.op = .extract x 1) (hg : o.guard = none) (hdst : o.dst = some d) (hd : Nat.blt d n = true) (hx : evO σ.F x = ⟨.lit, .tuple #[v, .bool b]⟩) (h : AL P w0 X n ops rest ⟨(d, ⟨.bool, b⟩) :: σ.F, σ.E, σ.nx⟩ Q) : AL P w0 X n ops (o :: rest) σ Q :=
  AL.hand hg (fun c e' => by rw [ho] at e'; cases e') (znQ ho hdst hd hx (N := fun σ' => AL P w0 X n ops rest σ' Q) h)
end
theorem AWP.via {P : Program} {w0 : World} {X : Ownr} {n : Nat} {σ : AS} {Q : Exit -> AS -> Prop} {c d : Code} {σ' : AS} (h1 : AWP P w0 X n c σ (zjJ (fun s => Fit s σ') Q)) (h2 : AWP P w0 X n d σ' Q) (hk : X.K ≤ σ'.nx := by exact Nat.le_of_ble_eq_true rfl) : AWP P w0 X n (.seq c d) σ Q :=
  zae <| AWP.mono h1 fun e s h => by
    cases e with
    | normal => exact zan h h2 hk
    | _ => exact h
theorem AWP.viaQ {P : Program} {w0 : World} {X : Ownr} {n : Nat} {σ : AS} {Q : Exit -> AS -> Prop} {c d : Code} {σ' : AS} (h1 : AWP P w0 X n c σ (zjJ (fun s => Fit s σ') Q)) (h2 : AWP P w0 X n d σ' Q) (hk : X.K ≤ σ'.nx := by exact Nat.le_of_ble_eq_true rfl) : AWP P w0 X n c σ (zjJ (fun s => AWP P w0 X n d s Q) Q) :=
  AWP.mono h1 fun e s h => by
    cases e with
    | normal => exact zan h h2 hk
    | _ => exact h
set_option maxRecDepth 100000
theorem zqV : Tryz.prog.globalNamed "internal/strconv.uint64pow10" = some 5 := by kernel_rfl
def gmH (w : World) : Prop := Lib.TabIs Tryz.prog w "internal/strconv.uint64pow10" .u64 Lib.pow10Tab ∧ ∃ ev, w.cell? ⟨4, 0, none⟩ = some ev ∧ (ev = .nilIface ∨ ∃ te pe, ev = .iface te pe)
theorem zkX {w : World} (h : gmH w) : 5 < w.heap.size ∧ 4 < w.heap.size := by
  obtain ⟨ht, ev, hc, _⟩ := h
  have hl : ∀ g : Nat, (∃ o : Obj, w.heap[g]? = some o) -> g < w.heap.size := fun g ⟨o, ho⟩ => (Array.getElem?_eq_some_iff.1 ho).1
  refine ⟨hl _ ?_, hl _ ?_⟩
  · unfold Lib.TabIs World.var? at ht
    rw [zqV] at ht
    simp only [Option.bind_some] at ht
    cases ho : w.heap[5]? with
    | none => rw [ho] at ht; cases ht
    | some o => exact ⟨o, rfl⟩
  · unfold World.cell? at hc
    cases ho : w.heap[4]? with
    | none => simp [ho] at hc
    | some o => exact ⟨o, rfl⟩
theorem zkY {R : Nat -> Prop} {w w' : World} (h1 : ¬ R 5) (h2 : ¬ R 4) (h : gmH w) (hk : Kept R w w') : gmH w' := by
  obtain ⟨l1, l2⟩ := zkX h
  obtain ⟨ht, ev, hc, hev⟩ := h
  refine ⟨?_, ev, ?_, hev⟩
  · unfold Lib.TabIs World.var? at *
    rw [zqV] at *
    simp only [Option.bind_some] at *
    rw [hk.block _ l1 h1]
    exact ht
  · unfold World.cell? at *
    rw [hk.block _ l2 h2]
    exact hc
theorem zhA (w w' : World) (h : gmH w) (hb : Below w.heap.size w w') : gmH w' := zkY (R := fun _ => False) (fun h => h) (fun h => h) h ⟨hb.os, hb.tape, hb.output, hb.size, fun k hk _ => hb.block k hk⟩
theorem zaj : KnOk Tryz.prog gmH gmK := ⟨zgH, zgG, CsOk.nil, zhA, RsOk.nil⟩
def ginv (_ : World) (R : Nat -> Prop) (_ : TypeId) : Prop := ¬ R 5 ∧ ¬ R 4
theorem zaN : ∀ w w' R (ty : TypeId), ginv w R ty -> gmH w -> Kept R w w' -> gmH w' := fun _ _ _ _ h hg hk => zkY h.1 h.2 hg hk
theorem zaD {w0 : World} {X : Ownr} {ty : TypeId} (hX : X.Ok w0) (hG : X.G = gmH) (hi : ginv w0 X.R ty) {ty' : TypeId} : ∀ w R, (∀ g, R g -> w0.heap.size ≤ g ∨ X.R g) -> X.G w -> ginv w R ty' := fun w R hR _ => by
  have h0 : gmH w0 := by have := hX.2.2 w0 (Kept.refl _ _); rwa [hG] at this
  obtain ⟨l1, l2⟩ := zkX h0
  refine ⟨fun h => ?_, fun h => ?_⟩
  · rcases hR _ h with h1 | h1
    · omega
    · exact hi.1 h1
  · rcases hR _ h with h1 | h1
    · omega
    · exact hi.2 h1
theorem CtrOk.lift {f : FuncId} {c : Ctr} (h : CtrOk Tryz.prog gmG f c) : CtrOk Tryz.prog gmH f c := ⟨h.1, fun w O xs vs hO hr hp _ => h.2 w O xs vs hO hr hp trivial⟩
theorem zca (a b : Bool) : (bif a then b else false) = (a && b) := by cases a <;> rfl
theorem zgU (a b : Bool) : (bif a then true else b) = (a || b) := by cases a <;> rfl
theorem u8eq (a b : UInt8) : (((a.toNat : Nat) : Int) == ((b.toNat : Nat) : Int)) = (a == b) := by
  rw [Bool.eq_iff_iff, beq_iff_eq, beq_iff_eq, <- UInt8.toNat_inj]
  omega
theorem u8le (a b : UInt8) : decide (((a.toNat : Nat) : Int) ≤ ((b.toNat : Nat) : Int)) = decide (a ≤ b) := by
  rw [Bool.eq_iff_iff, decide_eq_true_iff, decide_eq_true_iff, UInt8.le_iff_toNat_le]
  omega
def cLt : Ctr := { args := [u8], pre := fun _ => [], res := .bool, own := none, out := fun x => isLt x.1 }
theorem zny : CtrOk Tryz.prog gmG 111 cLt := by
  refine zaq (K := gmK) zck Tryz.func111 rfl rfl Tryz.call111 rfl (by decide) (by intro h; cases h) ?_
  rintro w0 X hX ⟨(c : UInt8), _⟩ hp
  change AWP _ _ _ _ _ ⟨[(0, ⟨u8, c⟩)], [], 0⟩ _
  (repeat (first | refine zae ?_ | refine zac ?_ | refine zak ?_ | refine zad ?_ | refine zab ?_ | refine zaa hX zck rfl trivial ?_ | refine zaa hX zck rfl id ?_ | refine zaa hX zck rfl ⟨id, id⟩ ?_))
  (repeat (first | refine zae ?_ | refine zac ?_ | refine zab ?_ | refine zad ?_)); refine zaa hX zck rfl ?_ ?_
  · repeat' (first | exact trivial | assumption | (refine ⟨?_, ?_⟩) | (intro _) | exact Nat.le_of_ble_eq_true rfl | exact Int.natCast_nonneg _ | (simp_all [allP]; done))
  refine AWP.ret ⟨.inr rfl, zay rfl trivial rfl rfl ?_⟩
  show (bif decide ((((97 : UInt8).toNat : Nat) : Int) ≤ (((c ||| 32 : UInt8).toNat : Nat) : Int)) then decide ((((c ||| 32 : UInt8).toNat : Nat) : Int) ≤ (((122 : UInt8).toNat : Nat) : Int)) else false) = isLt c
  simp only [zca, u8le]
  rfl
def cDg : Ctr := { args := [u8], pre := fun _ => [], res := .bool, own := none, out := fun x => isDg x.1 }
theorem znz : CtrOk Tryz.prog gmG 113 cDg := by
  refine zaq (K := gmK) zck Tryz.func113 rfl rfl Tryz.call113 rfl (by decide) (by intro h; cases h) ?_
  rintro w0 X hX ⟨(c : UInt8), _⟩ hp
  change AWP _ _ _ _ _ ⟨[(0, ⟨u8, c⟩)], [], 0⟩ _
  (repeat (first | refine zae ?_ | refine zac ?_ | refine zak ?_ | refine zad ?_ | refine zab ?_ | refine zaa hX zck rfl trivial ?_ | refine zaa hX zck rfl id ?_ | refine zaa hX zck rfl ⟨id, id⟩ ?_))
  refine AWP.ret ⟨.inr rfl, zay rfl trivial rfl rfl ?_⟩
  show (bif decide ((((48 : UInt8).toNat : Nat) : Int) ≤ (((c : UInt8).toNat : Nat) : Int)) then decide ((((c : UInt8).toNat : Nat) : Int) ≤ (((57 : UInt8).toNat : Nat) : Int)) else false) = isDg c
  simp only [zca, u8le]
  rfl
def cWh : Ctr := { args := [u8], pre := fun _ => [], res := .bool, own := none, out := fun x => isWh x.1 }
theorem zqM : CtrOk Tryz.prog gmG 53 cWh := by
  refine zaq (K := gmK) zck Tryz.func53 rfl rfl Tryz.call53 rfl (by decide) (by intro h; cases h) ?_
  rintro w0 X hX ⟨(c : UInt8), _⟩ hp
  change AWP _ _ _ _ _ ⟨[(0, ⟨u8, c⟩)], [], 0⟩ _
  (repeat (first | refine zae ?_ | refine zac ?_ | refine zak ?_ | refine zad ?_ | refine zab ?_ | refine zaa hX zck rfl trivial ?_ | refine zaa hX zck rfl id ?_ | refine zaa hX zck rfl ⟨id, id⟩ ?_))
  (repeat (first | refine zae ?_ | refine zac ?_ | refine zab ?_ | refine zad ?_)); refine zaa hX zck rfl ?_ ?_
  · repeat' (first | exact trivial | assumption | (refine ⟨?_, ?_⟩) | (intro _) | exact Nat.le_of_ble_eq_true rfl | exact Int.natCast_nonneg _ | (simp_all [allP]; done))
  refine AWP.ret ⟨.inr rfl, zay rfl trivial rfl rfl ?_⟩
  show (bif (bif (bif (((c.toNat : Nat) : Int) == (((32 : UInt8).toNat : Nat) : Int)) then true else (((c.toNat : Nat) : Int) == (((9 : UInt8).toNat : Nat) : Int))) then true else (((c.toNat : Nat) : Int) == (((10 : UInt8).toNat : Nat) : Int))) then true else (((c.toNat : Nat) : Int) == (((13 : UInt8).toNat : Nat) : Int))) = isWh c
  simp only [zgU, u8eq]
  rfl
def kTok1 : Kn := { gmK with C := [(111, cLt), (113, cDg)] }
theorem zeT : KnOk Tryz.prog gmG kTok1 := zck.with (.cons zny <| .cons znz .nil)
def cPt : Ctr := { args := [u8], pre := fun _ => [], res := .bool, own := none, out := fun x => isPt x.1 }
theorem zqN : CtrOk Tryz.prog gmG 112 cPt := by
  refine zaq (K := kTok1) zeT Tryz.func112 rfl rfl Tryz.call112 rfl (by decide) (by intro h; cases h) ?_
  rintro w0 X hX ⟨(c : UInt8), _⟩ hp
  change AWP _ _ _ _ _ ⟨[(0, ⟨u8, c⟩)], [], 0⟩ _
  (repeat (first | refine zae ?_ | refine zac ?_ | refine zak ?_ | refine zad ?_ | refine zab ?_ | refine zaa hX zeT rfl trivial ?_ | refine zaa hX zeT rfl id ?_ | refine zaa hX zeT rfl ⟨id, id⟩ ?_))
  (repeat (first | refine zae ?_ | refine zac ?_ | refine zab ?_ | refine zad ?_)); refine zaa hX zeT rfl ?_ ?_
  · repeat' (first | exact trivial | assumption | (refine ⟨?_, ?_⟩) | (intro _) | exact Nat.le_of_ble_eq_true rfl | exact Int.natCast_nonneg _ | (simp_all [allP]; done))
  refine AWP.ret ⟨.inr rfl, zay rfl trivial rfl rfl ?_⟩
  show (bif (bif isLt c then true else isDg c) then true else (((c.toNat : Nat) : Int) == (((45 : UInt8).toNat : Nat) : Int))) = isPt c
  simp only [zgU, u8eq]
  rfl
def zrq (p : UInt8 -> Bool) : Ctr := { args := [u8], pre := fun _ => [], res := .bool, own := none, out := fun x => p x.1 }
def zkj (f : FuncId) (p : UInt8 -> Bool) : Ctr := { args := [.str, .lit], pre := fun x => [x.2.1 = .func (.func f) #[] #[]], res := i64, own := none, out := fun x => ((zbr p x.1 : Nat) : Int) }
theorem zd0 {p : UInt8 -> Bool} {s : List UInt8} {k : Nat} (hk : k ≤ s.length) (h1 : ∀ j (hj : j < s.length), j < k -> p s[j] = true) (h2 : ∀ h : k < s.length, p s[k] = false) : zbr p s = k := by
  unfold zbr
  have e : s = s.take k ++ s.drop k := (List.take_append_drop k s).symm
  rw [e, List.takeWhile_append_of_pos]
  · have : (s.drop k).takeWhile p = [] := by
      by_cases h : k < s.length
      · rw [List.drop_eq_getElem_cons h, List.takeWhile_cons, h2 h]
        rfl
      · rw [List.drop_of_length_le (by omega)]; rfl
    rw [this, List.append_nil, List.length_take]
    omega
  · intro x hx
    obtain ⟨j, hj, rfl⟩ := List.mem_iff_getElem.1 hx
    rw [List.length_take] at hj
    rw [List.getElem_take]
    exact h1 j (by omega) (by omega)
def kSpWh : Kn := { gmK with C := [(53, zrq isWh)] }
theorem zbJ : KnOk Tryz.prog gmG kSpWh := zck.with (.cons zqM .nil)
theorem ziF : CtrOk Tryz.prog gmG 52 (zkj 53 isWh) := by
  refine zaq (K := kSpWh) zbJ Tryz.func52 rfl rfl Tryz.call52 rfl (by decide) (by intro h; cases h) ?_
  rintro w0 X hX ⟨(s : List UInt8), (g : Value), _⟩ hp
  obtain rfl : g = .func (.func 53) #[] #[] := hp
  change AWP _ _ _ _ _ ⟨[(0, ⟨.str, s⟩), (1, ⟨.lit, .func (.func 53) #[] #[]⟩)], [], 0⟩ _
  refine AWP.slen 0 rfl fun hl => ?_
  unfold maxLen at hl
  (repeat (first | refine zae ?_ | refine zac ?_ | refine zak ?_ | refine zad ?_ | refine zab ?_ | refine zaa hX zbJ rfl trivial ?_ | refine zaa hX zbJ rfl id ?_ | refine zaa hX zbJ rfl ⟨id, id⟩ ?_))
  refine AWP.loop (ι := Nat) (fun k => ⟨[(0, ⟨.str, s⟩), (1, ⟨.lit, .func (.func 53) #[] #[]⟩), (5, ⟨i64, (k : Int)⟩)], [], 0⟩) (fun k => k ≤ s.length ∧ ∀ j (hj : j < s.length), j < k -> isWh s[j] = true) (fun k => s.length - k) 0 ⟨by omega, fun j _ h => by omega⟩ ⟨⟨rfl, rfl, rfl, trivial⟩, trivial, rfl, rfl⟩ ?_
  rintro k ⟨hk, hall⟩
  (repeat (first | refine zae ?_ | refine zac ?_ | refine zab ?_ | refine zad ?_)); refine zah ?_
  refine AL.take 5 hX zbJ rfl trivial ?_
  by_cases hlt : k < s.length
  · refine AL.fit (σ' := ⟨[(0, ⟨.str, s⟩), (1, ⟨.lit, .func (.func 53) #[] #[]⟩), (5, ⟨i64, (k : Int)⟩), (10, ⟨.bool, true⟩)], [], 0⟩) ⟨⟨rfl, rfl, rfl, zcS (decide_eq_true (by omega)), trivial⟩, trivial, rfl, rfl⟩ ?_
    have n0 : (0 : Int) ≤ (k : Int) := by omega
    have n1 : (k : Int) < ((s.length : Nat) : Int) := by omega
    refine AL.all hX zbJ rfl ?_ ?_
    · exact ⟨fun _ => ⟨rfl, rfl, n0, n1⟩, fun _ => rfl, fun _ => rfl⟩
    refine zai rfl (fun hb => ?_) (fun hb => ?_)
    · have hb : isWh (s.getD (k : Int).toNat 0) = true := hb
      rw [zaR hlt] at hb
      refine zac ?_
      (repeat (first | refine zae ?_ | refine zac ?_ | refine zab ?_ | refine zad ?_)); refine zaa hX zbJ rfl ?_ ?_
      · exact zaT (by omega)
      refine ⟨k + 1, ⟨by omega, fun j hj hjk => ?_⟩, by omega, ⟨rfl, rfl, zdA _, trivial⟩, trivial, rfl, rfl⟩
      by_cases e : j = k
      · subst e; exact hb
      · exact hall j hj (by omega)
    · have hb : isWh (s.getD (k : Int).toNat 0) = false := hb
      rw [zaR hlt] at hb
      (repeat (first | refine zae ?_ | refine zac ?_ | refine zak ?_ | refine zad ?_ | refine zab ?_ | refine zaa hX zbJ rfl trivial ?_ | refine zaa hX zbJ rfl id ?_ | refine zaa hX zbJ rfl ⟨id, id⟩ ?_))
      refine AWP.ret ⟨.inr rfl, zay rfl trivial rfl rfl ?_⟩
      show (k : Int) = ((zbr isWh s : Nat) : Int)
      rw [zd0 hk hall fun _ => hb]
  · refine AL.fit (σ' := ⟨[(0, ⟨.str, s⟩), (1, ⟨.lit, .func (.func 53) #[] #[]⟩), (5, ⟨i64, (k : Int)⟩), (10, ⟨.bool, false⟩)], [], 0⟩) ⟨⟨rfl, rfl, rfl, zcS (decide_eq_false (by omega)), trivial⟩, trivial, rfl, rfl⟩ ?_
    refine AL.guardF 4 10 true .bool false rfl rfl rfl rfl rfl rfl ?_
    refine AL.guardF 4 10 true .bool false rfl rfl rfl rfl rfl rfl ?_
    refine AL.guardF 4 10 true .bool false rfl rfl rfl rfl rfl rfl ?_
    refine AL.guardF 4 10 true .bool false rfl rfl rfl rfl rfl rfl ?_
    refine AL.guardF 4 10 true .bool false rfl rfl rfl rfl rfl rfl ?_
    refine AL.all hX zbJ rfl id ?_
    refine zai rfl (fun hb => absurd (show false = true from hb) (by decide)) (fun _ => ?_)
    (repeat (first | refine zae ?_ | refine zac ?_ | refine zak ?_ | refine zad ?_ | refine zab ?_ | refine zaa hX zbJ rfl trivial ?_ | refine zaa hX zbJ rfl id ?_ | refine zaa hX zbJ rfl ⟨id, id⟩ ?_))
    refine AWP.ret ⟨.inr rfl, zay rfl trivial rfl rfl ?_⟩
    show (k : Int) = ((zbr isWh s : Nat) : Int)
    rw [zd0 hk hall fun h => absurd h hlt]
def kSpDg : Kn := { gmK with C := [(113, zrq isDg)] }
theorem zbL : KnOk Tryz.prog gmG kSpDg := zck.with (.cons znz .nil)
theorem zmt : CtrOk Tryz.prog gmG 52 (zkj 113 isDg) := by
  refine zaq (K := kSpDg) zbL Tryz.func52 rfl rfl Tryz.call52 rfl (by decide) (by intro h; cases h) ?_
  rintro w0 X hX ⟨(s : List UInt8), (g : Value), _⟩ hp
  obtain rfl : g = .func (.func 113) #[] #[] := hp
  change AWP _ _ _ _ _ ⟨[(0, ⟨.str, s⟩), (1, ⟨.lit, .func (.func 113) #[] #[]⟩)], [], 0⟩ _
  refine AWP.slen 0 rfl fun hl => ?_
  unfold maxLen at hl
  (repeat (first | refine zae ?_ | refine zac ?_ | refine zak ?_ | refine zad ?_ | refine zab ?_ | refine zaa hX zbL rfl trivial ?_ | refine zaa hX zbL rfl id ?_ | refine zaa hX zbL rfl ⟨id, id⟩ ?_))
  refine AWP.loop (ι := Nat) (fun k => ⟨[(0, ⟨.str, s⟩), (1, ⟨.lit, .func (.func 113) #[] #[]⟩), (5, ⟨i64, (k : Int)⟩)], [], 0⟩) (fun k => k ≤ s.length ∧ ∀ j (hj : j < s.length), j < k -> isDg s[j] = true) (fun k => s.length - k) 0 ⟨by omega, fun j _ h => by omega⟩ ⟨⟨rfl, rfl, rfl, trivial⟩, trivial, rfl, rfl⟩ ?_
  rintro k ⟨hk, hall⟩
  (repeat (first | refine zae ?_ | refine zac ?_ | refine zab ?_ | refine zad ?_)); refine zah ?_
  refine AL.take 5 hX zbL rfl trivial ?_
  by_cases hlt : k < s.length
  · refine AL.fit (σ' := ⟨[(0, ⟨.str, s⟩), (1, ⟨.lit, .func (.func 113) #[] #[]⟩), (5, ⟨i64, (k : Int)⟩), (10, ⟨.bool, true⟩)], [], 0⟩) ⟨⟨rfl, rfl, rfl, zcS (decide_eq_true (by omega)), trivial⟩, trivial, rfl, rfl⟩ ?_
    have n0 : (0 : Int) ≤ (k : Int) := by omega
    have n1 : (k : Int) < ((s.length : Nat) : Int) := by omega
    refine AL.all hX zbL rfl ?_ ?_
    · exact ⟨fun _ => ⟨rfl, rfl, n0, n1⟩, fun _ => rfl, fun _ => rfl⟩
    refine zai rfl (fun hb => ?_) (fun hb => ?_)
    · have hb : isDg (s.getD (k : Int).toNat 0) = true := hb
      rw [zaR hlt] at hb
      refine zac ?_
      (repeat (first | refine zae ?_ | refine zac ?_ | refine zab ?_ | refine zad ?_)); refine zaa hX zbL rfl ?_ ?_
      · exact zaT (by omega)
      refine ⟨k + 1, ⟨by omega, fun j hj hjk => ?_⟩, by omega, ⟨rfl, rfl, zdA _, trivial⟩, trivial, rfl, rfl⟩
      by_cases e : j = k
      · subst e; exact hb
      · exact hall j hj (by omega)
    · have hb : isDg (s.getD (k : Int).toNat 0) = false := hb
      rw [zaR hlt] at hb
      (repeat (first | refine zae ?_ | refine zac ?_ | refine zak ?_ | refine zad ?_ | refine zab ?_ | refine zaa hX zbL rfl trivial ?_ | refine zaa hX zbL rfl id ?_ | refine zaa hX zbL rfl ⟨id, id⟩ ?_))
      refine AWP.ret ⟨.inr rfl, zay rfl trivial rfl rfl ?_⟩
      show (k : Int) = ((zbr isDg s : Nat) : Int)
      rw [zd0 hk hall fun _ => hb]
  · refine AL.fit (σ' := ⟨[(0, ⟨.str, s⟩), (1, ⟨.lit, .func (.func 113) #[] #[]⟩), (5, ⟨i64, (k : Int)⟩), (10, ⟨.bool, false⟩)], [], 0⟩) ⟨⟨rfl, rfl, rfl, zcS (decide_eq_false (by omega)), trivial⟩, trivial, rfl, rfl⟩ ?_
    refine AL.guardF 4 10 true .bool false rfl rfl rfl rfl rfl rfl ?_
    refine AL.guardF 4 10 true .bool false rfl rfl rfl rfl rfl rfl ?_
    refine AL.guardF 4 10 true .bool false rfl rfl rfl rfl rfl rfl ?_
    refine AL.guardF 4 10 true .bool false rfl rfl rfl rfl rfl rfl ?_
    refine AL.guardF 4 10 true .bool false rfl rfl rfl rfl rfl rfl ?_
    refine AL.all hX zbL rfl id ?_
    refine zai rfl (fun hb => absurd (show false = true from hb) (by decide)) (fun _ => ?_)
    (repeat (first | refine zae ?_ | refine zac ?_ | refine zak ?_ | refine zad ?_ | refine zab ?_ | refine zaa hX zbL rfl trivial ?_ | refine zaa hX zbL rfl id ?_ | refine zaa hX zbL rfl ⟨id, id⟩ ?_))
    refine AWP.ret ⟨.inr rfl, zay rfl trivial rfl rfl ?_⟩
    show (k : Int) = ((zbr isDg s : Nat) : Int)
    rw [zd0 hk hall fun h => absurd h hlt]
def kSpPt : Kn := { gmK with C := [(112, zrq isPt)] }
theorem zbK : KnOk Tryz.prog gmG kSpPt := zck.with (.cons zqN .nil)
theorem zms : CtrOk Tryz.prog gmG 52 (zkj 112 isPt) := by
  refine zaq (K := kSpPt) zbK Tryz.func52 rfl rfl Tryz.call52 rfl (by decide) (by intro h; cases h) ?_
  rintro w0 X hX ⟨(s : List UInt8), (g : Value), _⟩ hp
  obtain rfl : g = .func (.func 112) #[] #[] := hp
  change AWP _ _ _ _ _ ⟨[(0, ⟨.str, s⟩), (1, ⟨.lit, .func (.func 112) #[] #[]⟩)], [], 0⟩ _
  refine AWP.slen 0 rfl fun hl => ?_
  unfold maxLen at hl
  (repeat (first | refine zae ?_ | refine zac ?_ | refine zak ?_ | refine zad ?_ | refine zab ?_ | refine zaa hX zbK rfl trivial ?_ | refine zaa hX zbK rfl id ?_ | refine zaa hX zbK rfl ⟨id, id⟩ ?_))
  refine AWP.loop (ι := Nat) (fun k => ⟨[(0, ⟨.str, s⟩), (1, ⟨.lit, .func (.func 112) #[] #[]⟩), (5, ⟨i64, (k : Int)⟩)], [], 0⟩) (fun k => k ≤ s.length ∧ ∀ j (hj : j < s.length), j < k -> isPt s[j] = true) (fun k => s.length - k) 0 ⟨by omega, fun j _ h => by omega⟩ ⟨⟨rfl, rfl, rfl, trivial⟩, trivial, rfl, rfl⟩ ?_
  rintro k ⟨hk, hall⟩
  (repeat (first | refine zae ?_ | refine zac ?_ | refine zab ?_ | refine zad ?_)); refine zah ?_
  refine AL.take 5 hX zbK rfl trivial ?_
  by_cases hlt : k < s.length
  · refine AL.fit (σ' := ⟨[(0, ⟨.str, s⟩), (1, ⟨.lit, .func (.func 112) #[] #[]⟩), (5, ⟨i64, (k : Int)⟩), (10, ⟨.bool, true⟩)], [], 0⟩) ⟨⟨rfl, rfl, rfl, zcS (decide_eq_true (by omega)), trivial⟩, trivial, rfl, rfl⟩ ?_
    have n0 : (0 : Int) ≤ (k : Int) := by omega
    have n1 : (k : Int) < ((s.length : Nat) : Int) := by omega
    refine AL.all hX zbK rfl ?_ ?_
    · exact ⟨fun _ => ⟨rfl, rfl, n0, n1⟩, fun _ => rfl, fun _ => rfl⟩
    refine zai rfl (fun hb => ?_) (fun hb => ?_)
    · have hb : isPt (s.getD (k : Int).toNat 0) = true := hb
      rw [zaR hlt] at hb
      refine zac ?_
      (repeat (first | refine zae ?_ | refine zac ?_ | refine zab ?_ | refine zad ?_)); refine zaa hX zbK rfl ?_ ?_
      · exact zaT (by omega)
      refine ⟨k + 1, ⟨by omega, fun j hj hjk => ?_⟩, by omega, ⟨rfl, rfl, zdA _, trivial⟩, trivial, rfl, rfl⟩
      by_cases e : j = k
      · subst e; exact hb
      · exact hall j hj (by omega)
    · have hb : isPt (s.getD (k : Int).toNat 0) = false := hb
      rw [zaR hlt] at hb
      (repeat (first | refine zae ?_ | refine zac ?_ | refine zak ?_ | refine zad ?_ | refine zab ?_ | refine zaa hX zbK rfl trivial ?_ | refine zaa hX zbK rfl id ?_ | refine zaa hX zbK rfl ⟨id, id⟩ ?_))
      refine AWP.ret ⟨.inr rfl, zay rfl trivial rfl rfl ?_⟩
      show (k : Int) = ((zbr isPt s : Nat) : Int)
      rw [zd0 hk hall fun _ => hb]
  · refine AL.fit (σ' := ⟨[(0, ⟨.str, s⟩), (1, ⟨.lit, .func (.func 112) #[] #[]⟩), (5, ⟨i64, (k : Int)⟩), (10, ⟨.bool, false⟩)], [], 0⟩) ⟨⟨rfl, rfl, rfl, zcS (decide_eq_false (by omega)), trivial⟩, trivial, rfl, rfl⟩ ?_
    refine AL.guardF 4 10 true .bool false rfl rfl rfl rfl rfl rfl ?_
    refine AL.guardF 4 10 true .bool false rfl rfl rfl rfl rfl rfl ?_
    refine AL.guardF 4 10 true .bool false rfl rfl rfl rfl rfl rfl ?_
    refine AL.guardF 4 10 true .bool false rfl rfl rfl rfl rfl rfl ?_
    refine AL.guardF 4 10 true .bool false rfl rfl rfl rfl rfl rfl ?_
    refine AL.all hX zbK rfl id ?_
    refine zai rfl (fun hb => absurd (show false = true from hb) (by decide)) (fun _ => ?_)
    (repeat (first | refine zae ?_ | refine zac ?_ | refine zak ?_ | refine zad ?_ | refine zab ?_ | refine zaa hX zbK rfl trivial ?_ | refine zaa hX zbK rfl id ?_ | refine zaa hX zbK rfl ⟨id, id⟩ ?_))
    refine AWP.ret ⟨.inr rfl, zay rfl trivial rfl rfl ?_⟩
    show (k : Int) = ((zbr isPt s : Nat) : Int)
    rw [zd0 hk hall fun h => absurd h hlt]
theorem zfA (c : UInt8) (r : List UInt8) : zav (c :: r) = if isLt c = true then zbr isPt (c :: r) else 0 := rfl
def zig : Ctr := { args := [.str], pre := fun _ => [], res := i64, own := none, out := fun x => ((zav x.1 : Nat) : Int) }
def kWl : Kn := { gmK with C := [(111, cLt), (52, zkj 112 isPt)] }
theorem zc7 : KnOk Tryz.prog gmG kWl := zck.with (.cons zny <| .cons zms .nil)
theorem zhf : CtrOk Tryz.prog gmG 65 zig := by
  refine zaq (K := kWl) zc7 Tryz.func65 rfl rfl Tryz.call65 rfl (by decide) (by intro h; cases h) ?_
  rintro w0 X hX ⟨(s : List UInt8), _⟩ hp
  change AWP _ _ _ _ _ ⟨[(0, ⟨.str, s⟩)], [], 0⟩ _
  (repeat (first | refine zae ?_ | refine zac ?_ | refine zak ?_ | refine zad ?_ | refine zab ?_ | refine zaa hX zc7 rfl trivial ?_ | refine zaa hX zc7 rfl id ?_ | refine zaa hX zc7 rfl ⟨id, id⟩ ?_))
  (repeat (first | refine zae ?_ | refine zac ?_ | refine zab ?_ | refine zad ?_)); refine zah ?_
  refine AL.take 3 hX zc7 rfl trivial ?_
  cases s with
  | nil =>
    refine AL.fit (σ' := ⟨[(0, ⟨.str, ([] : List UInt8)⟩), (5, ⟨.bool, true⟩)], [], 0⟩) ⟨⟨rfl, zcS (zbc.2 rfl), trivial⟩, trivial, rfl, rfl⟩ ?_
    refine AL.guardF 2 5 false .bool false rfl rfl rfl rfl rfl rfl ?_
    refine AL.guardF 2 5 false .bool false rfl rfl rfl rfl rfl rfl ?_
    refine AL.guardF 2 5 false .bool false rfl rfl rfl rfl rfl rfl ?_
    refine AL.guardF 2 5 false .bool false rfl rfl rfl rfl rfl rfl ?_
    refine AL.all hX zc7 rfl id ?_
    refine zai rfl (fun _ => ?_) (fun hb => absurd (show true = false from hb) (by decide))
    (repeat (first | refine zae ?_ | refine zac ?_ | refine zak ?_ | refine zad ?_ | refine zab ?_ | refine zaa hX zc7 rfl trivial ?_ | refine zaa hX zc7 rfl id ?_ | refine zaa hX zc7 rfl ⟨id, id⟩ ?_))
    exact AWP.ret ⟨.inr rfl, zay rfl trivial rfl rfl rfl⟩
  | cons c r =>
    refine AL.fit (σ' := ⟨[(0, ⟨.str, (c :: r : List UInt8)⟩), (5, ⟨.bool, false⟩)], [], 0⟩) ⟨⟨rfl, zcS (Bool.eq_false_iff.2 fun h => by cases zbc.1 h), trivial⟩, trivial, rfl, rfl⟩ ?_
    have n1 : (0 : Int) < (((c :: r).length : Nat) : Int) := by rw [List.length_cons]; omega
    refine AL.all hX zc7 rfl ⟨fun _ => ⟨rfl, Int.le_refl 0, n1⟩, fun _ => rfl, fun _ => rfl, fun _ => rfl⟩ ?_
    refine zai rfl (fun hb => ?_) (fun hb => ?_)
    · have hb : (!isLt c) = true := hb
      (repeat (first | refine zae ?_ | refine zac ?_ | refine zak ?_ | refine zad ?_ | refine zab ?_ | refine zaa hX zc7 rfl trivial ?_ | refine zaa hX zc7 rfl id ?_ | refine zaa hX zc7 rfl ⟨id, id⟩ ?_))
      refine AWP.ret ⟨.inr rfl, zay rfl trivial rfl rfl ?_⟩
      show (0 : Int) = ((zav (c :: r) : Nat) : Int)
      rw [zfA, if_neg (by simpa using hb)]
      rfl
    · have hb : (!isLt c) = false := hb
      refine zac ?_
      (repeat (first | refine zae ?_ | refine zac ?_ | refine zab ?_ | refine zad ?_)); refine zaa hX zc7 rfl ?_ ?_
      · exact rfl
      refine AWP.ret ⟨.inr rfl, zay rfl trivial rfl rfl ?_⟩
      show ((zbr isPt (c :: r) : Nat) : Int) = ((zav (c :: r) : Nat) : Int)
      rw [zfA, if_pos (by simpa using hb)]
def numA (acc : Nat) (l : List UInt8) : Nat := l.foldl (fun n c => 10 * n + (c.toNat - 48)) acc
theorem zm5 : ∀ (l : List UInt8) (acc : Nat), acc ≤ numA acc l
  | [], _ => Nat.le_refl _
  | c :: r, acc => by
    have := zm5 r (10 * acc + (c.toNat - 48))
    show acc ≤ numA (10 * acc + (c.toNat - 48)) r
    omega
theorem zkS (c : UInt8) : isDg c = true ↔ 48 ≤ c.toNat ∧ c.toNat ≤ 57 := by
  unfold isDg
  rw [Bool.and_eq_true, decide_eq_true_iff, decide_eq_true_iff, UInt8.le_iff_toNat_le, UInt8.le_iff_toNat_le]
  exact Iff.rfl
theorem zhs : ∀ (l : List UInt8) (acc : Nat), (∀ c ∈ l, isDg c = true) -> acc < 18446744073709551616 -> (Lib.parseUintM (2 ^ 64 - 1) acc l = .ok (numA acc l) ∧ numA acc l < 18446744073709551616) ∨ (Lib.parseUintM (2 ^ 64 - 1) acc l = .range ∧ 18446744073709551616 ≤ numA acc l)
  | [], acc, _, ha => .inl ⟨rfl, ha⟩
  | c :: r, acc, h, ha => by
    obtain ⟨h1, h2⟩ := (zkS c).1 (h c (List.mem_cons_self ..))
    have hge := zm5 r (10 * acc + (c.toNat - 48))
    have e : numA acc (c :: r) = numA (10 * acc + (c.toNat - 48)) r := rfl
    rw [Lib.parseUintM, if_pos ⟨h1, h2⟩, e]
    by_cases h3 : 1844674407370955162 ≤ acc
    · rw [if_pos h3]
      exact .inr ⟨rfl, by omega⟩
    · rw [if_neg h3]
      have e2 : acc * 10 + (c.toNat - 48) = 10 * acc + (c.toNat - 48) := by omega
      rw [e2]
      by_cases h4 : 2 ^ 64 - 1 < 10 * acc + (c.toNat - 48)
      · rw [if_pos h4]
        exact .inr ⟨rfl, by omega⟩
      · rw [if_neg h4]
        exact zhs r _ (fun x hx => h x (List.mem_cons_of_mem _ hx)) (by omega)
theorem zlL {l : List UInt8} (hl : l ≠ []) (h : ∀ c ∈ l, isDg c = true) : (Lib.parseIntB 64 l = .ok ((numv l : Nat) : Int)) ∨ (Lib.parseIntB 64 l = .range ∧ zcN ≤ numv l) := by
  cases l with
  | nil => exact absurd rfl hl
  | cons c r =>
    obtain ⟨h1, h2⟩ := (zkS c).1 (h c (List.mem_cons_self ..))
    rw [Lib.parseIntB_plain 64 c r (by omega) (by omega)]
    unfold Lib.parseUintB
    rw [if_neg (by simp)]
    have e : numv (c :: r) = numA 0 (c :: r) := rfl
    rw [e]
    unfold zcN
    rcases zhs (c :: r) 0 h (by omega) with ⟨h3, h4⟩ | ⟨h3, h4⟩
    · rw [h3]
      unfold Lib.signlessC
      by_cases h5 : 2 ^ (64 - 1) ≤ numA 0 (c :: r)
      · exact .inr ⟨if_pos h5, by omega⟩
      · exact .inl (if_neg h5)
    · rw [h3]
      exact .inr ⟨rfl, by omega⟩
def zog (s : List UInt8) (v : Int) (ev : Value) : Prop := (ev = .nilIface ∧ v = ((numv s : Nat) : Int)) ∨ ((∃ t p, ev = .iface t p) ∧ zcN ≤ numv s)
theorem zhX {s : List UInt8} (hs : s ≠ []) (hd : ∀ c ∈ s, isDg c = true) (hl : s.length ≤ 100000) (w : World) (hG : gmH w) :
    Calls Tryz.prog 177 #[.string ⟨s.toArray⟩, .int .i64 10, .int .i64 64] w fun e w' => ∃ v ev, e = .returned (.tuple #[.int .i64 v, ev]) ∧ Below w.heap.size w w' ∧ zog s v ev := by
  rcases zlL hs hd with h1 | ⟨h1, h2⟩
  · refine Calls.mono (Any.strconv_ParseInt_10_at64_ok Tryz.laysC174 ⟨s.toArray⟩ (by show s.length ≤ 9223372036854775806; omega) _ h1 w) ?_
    rintro e w' ⟨rfl, hw⟩
    refine ⟨_, _, rfl, ?_, .inl ⟨rfl, rfl⟩⟩
    rcases hw with rfl | ⟨t, rfl⟩
    · exact Below.refl _ _
    · exact Lib.bytesWorld_below _ _ _
  · obtain ⟨ev, hv, hev⟩ := hG.2
    refine Calls.mono (Any.strconv_ParseInt_10_at64_range Tryz.laysC174 ⟨s.toArray⟩ (by show s.length ≤ 281474976710656; omega) h1 ev w hv hev) ?_
    rintro e w' ⟨N, rfl, _, _, hb⟩
    exact ⟨_, _, rfl, hb, .inr ⟨⟨_, _, rfl⟩, h2⟩⟩
theorem zeP {α : Type} {p : α -> Bool} {c : α} : ∀ {l : List α}, c ∈ l.takeWhile p -> p c = true
  | x :: l, h => by
    rw [List.takeWhile_cons] at h
    split at h
    · rename_i hx
      rcases List.mem_cons.1 h with rfl | h
      · exact hx
      · exact zeP h
    · cases h
theorem errT : Tryz.prog.underlying 114 = some (.interface (Tryz.prog.methodsAt 114)) := by kernel_rfl
def zjb : Value -> Bool
  | .nilIface => true
  | _ => false
theorem eqlNil {a : Act} {w : World} {x : Operand} {d : Nat} {ty : TypeId} {pos : String} {af : Array Edge} {ev : Value} (hx : a.eval x = ev) (he : ev = .nilIface ∨ ∃ t p, ev = .iface t p) :
    (execOp a.eval { dst := some d, op := Op.binOp .eql 114 x (.const .nilIface) 114, type := ty, pos := pos, after := af, guard := none }).run Tryz.prog w = .ok (.value (.bool (zjb ev))) w := by
  have hn : a.eval (.const .nilIface) = .nilIface := rfl
  unfold execOp
  rcases he with rfl | ⟨t, p, rfl⟩
  · simp [hx, hn, eqGuard, run_eql_nil_nil _ _ errT, zjb]
  · simp [hx, hn, eqGuard, run_eql_held_nil _ _ _ _ errT, zjb]
theorem zqR : (1125899906842624 : Int) = ((zcN : Nat) : Int) := by decide
theorem zlI (M : Int) (hM : M = ((zcN : Nat) : Int)) {s : List UInt8} {v : Int} {ev : Value} {b : Bool} (hend : zog s v ev) (hb : b = zjb ev) : (bif b then decide (v < M) else false) = true ↔ (b = true ∧ v = ((numv s : Nat) : Int) ∧ numv s < zcN) := by
  rcases hend with ⟨rfl, rfl⟩ | ⟨⟨t, p, rfl⟩, hn⟩
  · rw [hb]
    show decide (((numv s : Nat) : Int) < M) = true ↔ _
    rw [decide_eq_true_iff]
    exact ⟨fun h => ⟨rfl, rfl, by omega⟩, fun h => by omega⟩
  · rw [hb]
    exact ⟨fun h => (by cases h), fun h => (by cases h.1)⟩
abbrev zTk : TokT := (0, 0, 0, [], 0, ())
def zed (s : List UInt8) : TokT × Bool × Unit := match zcz s with
  | some (k, n, t, x) => ((k, 0, (n : Nat), t, x, ()), true, ())
  | none => (zTk, false, ())
def zlc : Ctr := { args := [.str], pre := fun x => [x.1 ≠ [], List.length x.1 ≤ 100000], res := .tup tk (.tup .bool .unit), own := none, out := fun x => zed x.1 }
def kNu : Kn := { gmK with C := [(52, zkj 113 isDg)] }
theorem zbw : KnOk Tryz.prog gmH kNu := zaj.with (.cons zmt.lift .nil)
theorem zlR : CtrOk Tryz.prog gmH 131 zlc := by
  refine zaq (K := kNu) zbw Tryz.func131 rfl rfl Tryz.call131 rfl (by decide) (by intro h; cases h) ?_
  rintro w0 X hX ⟨(s : List UInt8), _⟩ hp
  obtain ⟨hne, hlen⟩ : s ≠ [] ∧ s.length ≤ 100000 := hp
  change AWP _ _ _ _ _ ⟨[(0, ⟨.str, s⟩)], [], 0⟩ _
  have hpos : 0 < s.length := List.length_pos_iff.2 hne
  (repeat (first | refine zae ?_ | refine zac ?_ | refine zak ?_ | refine zad ?_ | refine zab ?_ | refine zaa hX zbw rfl trivial ?_ | refine zaa hX zbw rfl id ?_ | refine zaa hX zbw rfl ⟨id, id⟩ ?_))
  have n0 : (0 : Int) < ((s.length : Nat) : Int) := by omega
  (repeat (first | refine zae ?_ | refine zac ?_ | refine zab ?_ | refine zad ?_)); refine zaa hX zbw rfl ?_ ?_
  · exact ⟨Int.le_refl 0, n0⟩
  have hsg : zaL s ≤ 1 ∧ zaL s ≤ s.length := by
    unfold zaL
    split <;> omega
  obtain ⟨c, r, rfl⟩ : ∃ c r, s = c :: r := by
    cases s with
    | nil => exact absurd rfl hne
    | cons c r => exact ⟨c, r, rfl⟩
  refine AWP.viaQ (σ' := ⟨[(0, ⟨.str, (c :: r : List UInt8)⟩), (2, ⟨.optr tk, ⟨0, tk, .here⟩⟩), (3, ⟨.bool, false⟩), (4, ⟨i64, ((zaL (c :: r) : Nat) : Int)⟩)], [(0, some (.box tk zTk))], 1⟩) ?_ ?_
  · refine zai rfl (fun hb => ?_) (fun hb => ?_)
    · have hb : (((c.toNat : Nat) : Int) == (((45 : UInt8).toNat : Nat) : Int)) = true := hb
      rw [u8eq, beq_iff_eq] at hb
      subst hb
      (repeat (first | refine zae ?_ | refine zac ?_ | refine zab ?_ | refine zad ?_)); refine zaa hX zbw rfl ?_ ?_
      · trivial
      exact ⟨⟨rfl, rfl, rfl, rfl, trivial⟩, ⟨rfl, trivial⟩, rfl, rfl⟩
    · have hb : (((c.toNat : Nat) : Int) == (((45 : UInt8).toNat : Nat) : Int)) = false := hb
      rw [u8eq] at hb
      have hs0 : zaL (c :: r) = 0 := by
        unfold zaL
        rw [if_neg]
        intro h
        rw [Option.some.inj h] at hb
        cases hb
      refine zac ?_
      exact ⟨⟨rfl, rfl, rfl, vI64 (by rw [hs0]; rfl), trivial⟩, ⟨rfl, trivial⟩, rfl, rfl⟩
  generalize hs : (c :: r : List UInt8) = s at *
  have p0 : (0 : Int) ≤ ((zaL s : Nat) : Int) := by omega
  have p1 : ((zaL s : Nat) : Int) ≤ ((s.length : Nat) : Int) := by omega
  (repeat (first | refine zae ?_ | refine zac ?_ | refine zab ?_ | refine zad ?_)); refine zaa hX zbw rfl ?_ ?_
  · exact ⟨p0, p1, rfl⟩
  have hdl : (zaH s).length ≤ s.length - zaL s := by
    have : (zaH s).length ≤ (s.drop (zaL s)).length := (List.takeWhile_prefix _).length_le
    rwa [List.length_drop] at this
  have hd5 : ((zbr isDg (List.drop (((zaL s : Nat) : Int)).toNat s) : Nat) : Int) = (((zaH s).length : Nat) : Int) := by
    rw [Int.toNat_natCast]
    rfl
  refine zan (σ' := ⟨[(0, ⟨.str, s⟩), (2, ⟨.optr tk, ⟨0, tk, .here⟩⟩), (3, ⟨.bool, false⟩), (4, ⟨i64, ((zaL s : Nat) : Int)⟩), (5, ⟨i64, (((zaH s).length : Nat) : Int)⟩)], [(0, some (.box tk zTk))], 1⟩) ⟨⟨rfl, rfl, rfl, rfl, vI64 hd5, trivial⟩, ⟨rfl, trivial⟩, rfl, rfl⟩ ?_
  (repeat (first | refine zae ?_ | refine zac ?_ | refine zab ?_ | refine zad ?_)); refine zaa hX zbw rfl ?_ ?_
  · trivial
  refine zai rfl (fun hb => ?_) (fun hb => ?_)
  · have hb : decide ((((zaH s).length : Nat) : Int) = 0) = true := hb
    have hb := of_decide_eq_true hb
    (repeat (first | refine zae ?_ | refine zac ?_ | refine zak ?_ | refine zad ?_ | refine zab ?_ | refine zaa hX zbw rfl trivial ?_ | refine zaa hX zbw rfl id ?_ | refine zaa hX zbw rfl ⟨id, id⟩ ?_))
    refine AWP.ret ⟨.inr rfl, zba (by decide) rfl rfl trivial ?_⟩
    show (zTk, (false, ())) = zed s
    unfold zed zcz
    rw [if_pos (by omega)]
  have hb : decide ((((zaH s).length : Nat) : Int) = 0) = false := hb
  have hd0 : (zaH s).length ≠ 0 := fun h => of_decide_eq_false hb (by omega)
  refine zac ?_
  have q0 : inR .i64 (((zaL s : Nat) : Int) + (((zaH s).length : Nat) : Int)) := zat (by omega) (by omega)
  have q1 : (0 : Int) ≤ ((zaL s : Nat) : Int) + (((zaH s).length : Nat) : Int) := by omega
  have q2 : ((zaL s : Nat) : Int) + (((zaH s).length : Nat) : Int) ≤ ((s.length : Nat) : Int) := by omega
  have q3 : ((zaL s : Nat) : Int) < ((s.length : Nat) : Int) := by omega
  (repeat (first | refine zae ?_ | refine zac ?_ | refine zab ?_ | refine zad ?_)); refine zaa hX zbw rfl ?_ ?_
  · exact ⟨q0, q0, q1, q2⟩
  have hm : ((zaL s : Nat) : Int) + (((zaH s).length : Nat) : Int) = ((zaL s + (zaH s).length : Nat) : Int) := by omega
  refine zan (σ' := ⟨[(0, ⟨.str, s⟩), (2, ⟨.optr tk, ⟨0, tk, .here⟩⟩), (3, ⟨.bool, false⟩), (4, ⟨i64, ((zaL s : Nat) : Int)⟩), (5, ⟨i64, (((zaH s).length : Nat) : Int)⟩), (6, ⟨.optr tk, ⟨1, tk, .here⟩⟩)], [(0, some (.box tk zTk)), (1, some (.box tk (3, 0, ((zaL s + (zaH s).length : Nat) : Int), s.take (zaL s + (zaH s).length), 1125899906842624, ())))], 2⟩) ⟨⟨rfl, rfl, rfl, rfl, rfl, rfl, trivial⟩, ⟨rfl, ze5 ?_, trivial⟩, rfl, rfl⟩ ?_
  · show ((3 : Int), (0 : Int), ((zaL s : Nat) : Int) + (((zaH s).length : Nat) : Int), List.take (((zaL s : Nat) : Int) + (((zaH s).length : Nat) : Int)).toNat s, (1125899906842624 : Int), ()) = _
    rw [hm, Int.toNat_natCast]
  have hds : zaH s = (s.drop (zaL s)).takeWhile isDg := rfl
  have hhd : (zaH s).head? = some (s.getD (zaL s) 0) := by
    rw [hds]
    have hne2 : (s.drop (zaL s)).takeWhile isDg ≠ [] := fun h => hd0 (by rw [hds, h]; rfl)
    rw [List.head?_eq_some_head hne2, List.head_takeWhile]
    congr 1
    rw [List.head_drop, List.getD_eq_getElem?_getD, List.getElem?_eq_getElem (by omega)]
    rfl
  (repeat (first | refine zae ?_ | refine zac ?_ | refine zab ?_ | refine zad ?_)); refine zaa hX zbw rfl ?_ ?_
  · exact ⟨p0, q3, fun h => ⟨h, h, q0⟩, fun h => h, fun h => h⟩
  have htest : (bif ((((s.getD (((zaL s : Nat) : Int)).toNat 0).toNat : Nat) : Int) == (((48 : UInt8).toNat : Nat) : Int)) then decide (((zaL s : Nat) : Int) + (((zaH s).length : Nat) : Int) > 1) else false) = decide ((zaH s).head? = some 48 ∧ 1 < zaL s + (zaH s).length) := by
    rw [u8eq, zca, Int.toNat_natCast, hhd, Bool.eq_iff_iff, Bool.and_eq_true, beq_iff_eq, decide_eq_true_iff, decide_eq_true_iff, Option.some_inj]
    constructor
    · rintro ⟨h1, h2⟩; exact ⟨h1, by omega⟩
    · rintro ⟨h1, h2⟩; exact ⟨h1, by omega⟩
  have hno : zcz s = if (zaH s).head? = some 48 ∧ 1 < zaL s + (zaH s).length then some (5, zaL s + (zaH s).length, s.take (zaL s + (zaH s).length), (zcN : Int)) else some (3, zaL s + (zaH s).length, s.take (zaL s + (zaH s).length), valN s) := by
    rw [zcz, if_neg hd0]
  refine zai rfl (fun hb => ?_) (fun hb => ?_)
  · have hb := htest.symm.trans hb
    have hb := of_decide_eq_true hb
    (repeat (first | refine zae ?_ | refine zac ?_ | refine zak ?_ | refine zad ?_ | refine zab ?_ | refine zaa hX zbw rfl trivial ?_ | refine zaa hX zbw rfl id ?_ | refine zaa hX zbw rfl ⟨id, id⟩ ?_))
    refine AWP.ret ⟨.inr rfl, zba (by decide) rfl rfl trivial ?_⟩
    show (((5 : Int), (0 : Int), ((zaL s + (zaH s).length : Nat) : Int), s.take (zaL s + (zaH s).length), (1125899906842624 : Int), ()), (true, ())) = zed s
    unfold zed
    rw [hno, if_pos hb]
    rfl
  have hb := htest.symm.trans hb
  have hb := of_decide_eq_false hb
  rw [if_neg hb] at hno
  refine zac ?_
  have hlist : ((s.take ((((zaL s : Nat) : Int) + (((zaH s).length : Nat) : Int))).toNat).drop (((zaL s : Nat) : Int)).toNat) = zaH s := by
    rw [hm, Int.toNat_natCast, Int.toNat_natCast, List.drop_take, Nat.add_sub_cancel_left, hds]
    exact List.prefix_iff_eq_take.1 (List.takeWhile_prefix isDg) |>.symm
  have hdig : ∀ c ∈ zaH s, isDg c = true := fun c hc => by
    rw [hds] at hc
    exact zeP hc
  have hdne : zaH s ≠ [] := fun h => hd0 (by rw [h]; rfl)
  (repeat (first | refine zae ?_ | refine zac ?_ | refine zab ?_ | refine zad ?_)); refine zah ?_
  refine AL.take 6 hX zbw rfl ⟨q0, p0, (by omega : ((zaL s : Nat) : Int) ≤ ((zaL s : Nat) : Int) + (((zaH s).length : Nat) : Int)), q2⟩ ?_
  refine AL.hand rfl (fun c e => by cases e) fun β a w hsim => ?_
  have h46 : a.eval (.tmp 46) = .string ⟨(zaH s).toArray⟩ := by
    have := (RepV.str (hsim.ops (.tmp 46))).1
    rwa [hlist] at this
  refine zew (f := 177) rfl Tryz.call177 ?_
  show Calls _ _ ((#[Operand.tmp 46, .const (.int .i64 10), .const (.int .i64 64)].toList.map a.eval).toArray) _ _
  rw [show ((#[Operand.tmp 46, .const (.int .i64 10), .const (.int .i64 64)].toList.map a.eval).toArray : Array Value) = #[.string ⟨(zaH s).toArray⟩, .int .i64 10, .int .i64 64] by show #[a.eval (.tmp 46), _, _] = _; rw [h46]; rfl]
  refine (zhX hdne hdig (by omega) w (hX.2.2 w hsim.bel)).mono ?_
  rintro e w'' ⟨v, ev, rfl, hb2, hend⟩
  refine ⟨_, rfl, ⟨(47, ⟨.lit, .tuple #[.int .i64 v, ev]⟩) :: _, _, _⟩, β, hsim.put hb2 (v := ⟨.lit, .tuple #[.int .i64 v, ev]⟩) rfl (Nat.zero_le _) (by show 47 < 65; omega), ?_⟩
  refine AL.take 1 hX zbw rfl trivial ?_
  refine AL.hand rfl (fun c e => by cases e) fun β a w' hs' => ?_
  have h33 : a.eval (.tmp 40) = .tuple #[.int .i64 v, ev] := hs'.ops (.tmp 40)
  refine zbq (u := .int .i64 v) (w' := w') ?_ ⟨⟨(48, ⟨i64, v⟩) :: _, _, _⟩, β, hs'.put (Below.refl _ _) (v := ⟨i64, v⟩) (RepV.ofInt (k := .i64)) (Nat.zero_le _) (by show 48 < 65; omega), ?_⟩
  · show (execOp a.eval { dst := some 48, op := Op.extract (.tmp 40) 0, type := _, pos := _, after := _, guard := none }).run _ _ = _
    unfold execOp
    simp [h33, Instr.extract]
  refine AL.hand rfl (fun c e => by cases e) fun β a w' hs' => ?_
  have h33 : a.eval (.tmp 40) = .tuple #[.int .i64 v, ev] := hs'.ops (.tmp 40)
  refine zbq (u := ev) (w' := w') ?_ ⟨⟨(49, ⟨.lit, ev⟩) :: _, _, _⟩, β, hs'.put (Below.refl _ _) (v := ⟨.lit, ev⟩) rfl (Nat.zero_le _) (by show 49 < 65; omega), ?_⟩
  · show (execOp a.eval { dst := some 49, op := Op.extract (.tmp 40) 1, type := _, pos := _, after := _, guard := none }).run _ _ = _
    unfold execOp
    simp [h33, Instr.extract]
  refine AL.all hX zbw rfl trivial ?_
  refine zan (σ' := ⟨[(0, ⟨.str, s⟩), (2, ⟨.optr tk, ⟨0, tk, .here⟩⟩), (4, ⟨i64, ((zaL s : Nat) : Int)⟩), (6, ⟨.optr tk, ⟨1, tk, .here⟩⟩), (7, ⟨i64, v⟩), (8, ⟨.lit, ev⟩)], [(0, some (.box tk zTk)), (1, some (.box tk (3, 0, ((zaL s + (zaH s).length : Nat) : Int), s.take (zaL s + (zaH s).length), 1125899906842624, ())))], 2⟩) ⟨⟨rfl, rfl, rfl, rfl, rfl, rfl, trivial⟩, ⟨rfl, rfl, trivial⟩, rfl, rfl⟩ ?_
  (repeat (first | refine zae ?_ | refine zac ?_ | refine zab ?_ | refine zad ?_)); refine zah ?_
  refine AL.take 1 hX zbw rfl trivial ?_
  refine AL.hand rfl (fun c e => by cases e) fun β a w' hs' => ?_
  have h38 : a.eval (.tmp 50) = ev := hs'.ops (.tmp 50)
  obtain ⟨b, hbv⟩ : ∃ b, b = zjb ev := ⟨_, rfl⟩
  refine zbq (u := .bool b) (w' := w') (by rw [hbv]; exact eqlNil h38 (hend.imp (fun h => h.1) (fun h => h.1))) ⟨⟨(51, ⟨.bool, b⟩) :: _, _, _⟩, β, hs'.put (Below.refl _ _) (v := ⟨.bool, b⟩) RepV.ofBool (Nat.zero_le _) (by show 51 < 65; omega), ?_⟩
  have hsmall : (bif b then decide (v < 1125899906842624) else false) = true ↔ (b = true ∧ v = ((numv (zaH s) : Nat) : Int) ∧ numv (zaH s) < zcN) := zlI _ zqR hend hbv
  have hbig : ¬ (bif b then decide (v < 1125899906842624) else false) = true -> zcN ≤ numv (zaH s) := fun h => by
    rcases hend with ⟨rfl, rfl⟩ | ⟨⟨t, p, rfl⟩, hn⟩
    · rcases Nat.lt_or_ge (numv (zaH s)) zcN with h1 | h1
      · exact absurd (hsmall.2 ⟨hbv, rfl, h1⟩) h
      · exact h1
    · exact hn
  refine AL.all hX zbw rfl ?_ ?_
  · exact ⟨fun h => h, fun h => h⟩
  have hfin : valN s = if zaL s = 1 then -((min (numv (zaH s)) zcN : Nat) : Int) else ((min (numv (zaH s)) zcN : Nat) : Int) := rfl
  refine AWP.viaQ (σ' := ⟨[(2, ⟨.optr tk, ⟨0, tk, .here⟩⟩), (4, ⟨i64, ((zaL s : Nat) : Int)⟩), (6, ⟨.optr tk, ⟨1, tk, .here⟩⟩)], [(0, some (.box tk zTk)), (1, some (.box tk (3, 0, ((zaL s + (zaH s).length : Nat) : Int), s.take (zaL s + (zaH s).length), ((min (numv (zaH s)) zcN : Nat) : Int), ())))], 2⟩) ?_ ?_
  · refine zai rfl (fun hb => ?_) (fun hb => ?_)
    · have hb : (bif b then decide (v < 1125899906842624) else false) = true := hb
      obtain ⟨_, h2, h3⟩ := hsmall.1 hb
      (repeat (first | refine zae ?_ | refine zac ?_ | refine zab ?_ | refine zad ?_)); refine zaa hX zbw rfl ?_ ?_
      · trivial
      refine ⟨⟨rfl, rfl, rfl, trivial⟩, ⟨rfl, ze5 ?_, trivial⟩, rfl, rfl⟩
      rw [Nat.min_eq_left (Nat.le_of_lt h3), <- h2]
    · have hb : ¬ (bif b then decide (v < 1125899906842624) else false) = true := by
        intro h
        have hb : (bif b then decide (v < 1125899906842624) else false) = false := hb
        rw [hb] at h
        cases h
      refine zac ⟨⟨rfl, rfl, rfl, trivial⟩, ⟨rfl, ze5 ?_, trivial⟩, rfl, rfl⟩
      rw [Nat.min_eq_right (hbig hb)]
      rfl
  have hbnd : ((min (numv (zaH s)) zcN : Nat) : Int) ≤ 1125899906842624 := by
    have := Nat.min_le_right (numv (zaH s)) zcN
    unfold zcN at *
    omega
  (repeat (first | refine zae ?_ | refine zac ?_ | refine zab ?_ | refine zad ?_)); refine zaa hX zbw rfl ?_ ?_
  · trivial
  refine AWP.viaQ (σ' := ⟨[(2, ⟨.optr tk, ⟨0, tk, .here⟩⟩), (6, ⟨.optr tk, ⟨1, tk, .here⟩⟩)], [(0, some (.box tk zTk)), (1, some (.box tk (3, 0, ((zaL s + (zaH s).length : Nat) : Int), s.take (zaL s + (zaH s).length), valN s, ())))], 2⟩) ?_ ?_
  · refine zai rfl (fun hb => ?_) (fun hb => ?_)
    · have hb : decide (((zaL s : Nat) : Int) = 1) = true := hb
      have hb := of_decide_eq_true hb
      (repeat (first | refine zae ?_ | refine zac ?_ | refine zab ?_ | refine zad ?_)); refine zaa hX zbw rfl ?_ ?_
      · show inR .i64 (-((min (numv (zaH s)) zcN : Nat) : Int))
        exact zat (by omega) (by omega)
      refine ⟨⟨rfl, rfl, trivial⟩, ⟨rfl, ze5 ?_, trivial⟩, rfl, rfl⟩
      rw [hfin, if_pos (by omega)]
    · have hb : decide (((zaL s : Nat) : Int) = 1) = false := hb
      have hb := of_decide_eq_false hb
      refine zac ⟨⟨rfl, rfl, trivial⟩, ⟨rfl, ze5 ?_, trivial⟩, rfl, rfl⟩
      rw [hfin, if_neg (by omega)]
  (repeat (first | refine zae ?_ | refine zac ?_ | refine zak ?_ | refine zad ?_ | refine zab ?_ | refine zaa hX zbw rfl trivial ?_ | refine zaa hX zbw rfl id ?_ | refine zaa hX zbw rfl ⟨id, id⟩ ?_))
  refine AWP.ret ⟨.inr rfl, zba (by decide) rfl rfl trivial ?_⟩
  show (((3 : Int), (0 : Int), ((zaL s + (zaH s).length : Nat) : Int), s.take (zaL s + (zaH s).length), valN s, ()), (true, ())) = zed s
  unfold zed
  rw [hno]
end Go.Proofs.YtpeaigpfddalcaaGreatDoor
namespace Go.Proofs.YtpeaigpfddalcaaGreatDoor
open Go Go.RowKit Go.ChangeShapes Go.WideShapes Go.ChangeAt
set_option linter.unusedSimpArgs false
set_option linter.unusedVariables false
set_option maxRecDepth 100000
theorem own : ownKnob Tryz.prog.godebug = none := by kernel_rfl
theorem zqJ : laidOutB Tryz.prog = true := by kernel_rfl
abbrev znr : List (String × DataW Unit) := Rows.grammarParseMatchesReferenceRow.laid
theorem tab_eq : (znr.filter fun x => x.1 == "internal/strconv.uint64pow10") = [("internal/strconv.uint64pow10", Lib.tabData .u64 Lib.pow10Tab)] := by kernel_rfl
theorem err_eq : (znr.filter fun x => x.1 == "strconv.ErrRange") = [("strconv.ErrRange", Rows.laid_strconv_ErrRange)] := by kernel_rfl
theorem zlT : (znr.filter fun x => x.2.handleName?.isSome) = [] := by kernel_rfl
theorem zpi : (Tryz.prog.globals[5]?).map (·.type) = some 267 := by kernel_rfl
theorem zpx : Tryz.prog.cellsOf 267 = 20 := by kernel_rfl
theorem zpw : Tryz.prog.cellsOf 236 = 1 := by kernel_rfl
theorem gErr : Tryz.prog.globalNamed "strconv.ErrRange" = some 4 := by kernel_rfl
theorem zpj : (Tryz.prog.globals[4]?).map (·.type) = some 114 := by kernel_rfl
theorem zrg {W : World} (h : laidMetH Tryz.prog znr W) : gmH W := by
  have h1 : laidMet Tryz.prog znr W := by
    have := (laidMetH_iff.1 h).1
    rwa [List.filter_eq_self.2 (fun x hx => by
      have hn := (List.filter_eq_nil_iff.1 zlT) x hx
      cases he : x.2.handleName? with
      | none => rfl
      | some s => rw [he] at hn; exact absurd rfl hn)] at this
  have ht := h1.filter fun x => x.1 == "internal/strconv.uint64pow10"
  have he := h1.filter fun x => x.1 == "strconv.ErrRange"
  rw [tab_eq] at ht
  rw [err_eq] at he
  refine ⟨Lib.tabIs_of_head (rest := []) zqV zpi Tryz.underlying267 Tryz.underlying236 zpw zpx ht, ?_⟩
  obtain ⟨ps, ⟨g', t', cs, fuel, p, q, hg', ht', hvar, hd, _, _⟩, _⟩ := he
  obtain rfl := Option.some.inj (gErr.symm.trans hg')
  obtain rfl := Option.some.inj (zpj.symm.trans ht')
  obtain ⟨_, u, v, hcs, _, _⟩ := iface_of_trod errT hd
  refine ⟨.iface u v, ?_, .inr ⟨u, v, rfl⟩⟩
  unfold World.var? at hvar
  rw [gErr] at hvar
  simp only [Option.bind_some] at hvar
  unfold World.cell?
  cases ho : W.heap[4]? with
  | none => rw [ho] at hvar; cases hvar
  | some o =>
    rw [ho] at hvar
    cases o <;> simp at hvar
    rename_i c t fz
    subst hvar
    simp
    rw [<- Array.getElem?_toList, hcs]
    rfl
def numD : DataW Unit -> Int
  | .lit (.int _ z) => z
  | _ => 0
def znJ : DataW Unit -> List Int
  | .agg ds => ds.flatMap fun d => match d with
    | .agg es => es.map numD
    | d => [numD d]
  | _ => []
def setG (g : Nat) (cs : List Value) (h : Array Obj) : Array Obj := h.modify g fun
  | .cells _ t frozen => .cells cs.toArray t frozen
  | o => o
noncomputable def heapW (os : Os) : Array Obj :=
  let h := (World.holding Tryz.prog os ⟨#[], #[], []⟩).heap
  let n := h.size
  ((setG 6 ((znJ Rows.laid_math_bits_deBruijn32tab).map (.int .u8 ·)) <|
    setG 7 ((znJ Rows.laid_math_bits_deBruijn64tab).map (.int .u8 ·)) <|
    setG 5 ((znJ Rows.laid_internal_strconv_uint64pow10).map (.int .u64 ·)) <|
    setG 1 ((znJ Rows.laid_unicode_utf8_acceptRanges).map (.int .u8 ·)) <|
    setG 0 ((znJ Rows.laid_unicode_utf8_first).map (.int .u8 ·)) <|
    setG 4 [.iface 273 (.pointer (some ⟨n, 0, none⟩))] <|
    setG 3 [.iface 273 (.pointer (some ⟨n + 1, 0, none⟩))] h).push
      (.cells #[.string ⟨#[118, 97, 108, 117, 101, 32, 111, 117, 116, 32, 111, 102, 32, 114, 97, 110, 103, 101]⟩] 275)).push
      (.cells #[.string ⟨#[105, 110, 118, 97, 108, 105, 100, 32, 115, 121, 110, 116, 97, 120]⟩] 275)
noncomputable def zgB (os : Os) : World := { World.holding Tryz.prog os ⟨#[], #[], []⟩ with heap := heapW os }
end Go.Proofs.YtpeaigpfddalcaaGreatDoor
namespace Go.Proofs.YtpeaigpfddalcaaGreatDoor
open Go Go.RowKit
set_option linter.unusedSimpArgs false
set_option linter.unusedVariables false
section
variable {s : List UInt8}
theorem zdj {st st' : GSt} {w : List UInt8} (he : zaQ s st w = .ok st') : st'.2 = st.2 := by
  obtain ⟨u, _, h2⟩ := zam he
  cases h2
  rfl
theorem zcO {st st' : GSt} (he : zbH s st = .ok st') : st'.2 = st.2 + 1 := by
  obtain ⟨u, _, h2⟩ := zam he
  cases h2
  rfl
theorem zbk {st st' : GSt} {lo hi x : Int} (he : zaI s st lo hi = .ok (x, st')) : st'.2 = st.2 := by
  obtain ⟨_, _, he⟩ := zam he
  obtain ⟨_, _, he⟩ := zam he
  cases he
  rfl
theorem zk1 {lo hi : Int} {z : Bool} : ∀ (k : Nat) {st st' : GSt} {l l' : List Int}, zcc s lo hi z k st l = .ok (l', st') -> st'.2 = st.2
  | 0, _, _, _, _, he => by cases he
  | k + 1, st, st', l, l', he => by
    unfold zcc at he
    split at he
    · cases he; rfl
    · obtain ⟨_, _, he⟩ := zam he
      obtain ⟨_, _, he⟩ := zam he
      obtain ⟨_, _, he⟩ := zam he
      obtain ⟨⟨x, st1⟩, h1, he⟩ := zam he
      rw [zk1 k he, zbk h1]
theorem zib {st st' : GSt} {lo hi : Int} {z : Bool} {l : List Int} (he : zcX s st lo hi z = .ok (l, st')) : st'.2 = st.2 := by
  obtain ⟨st1, h1, he⟩ := zam he
  obtain ⟨⟨l1, st2⟩, h2, he⟩ := zam he
  obtain ⟨st3, h3, he⟩ := zam he
  cases he
  rw [zdj h3, zk1 _ h2, zdj h1]
theorem zk0 {st st' : GSt} {x : Int} (he : zdi s st = .ok (x, st')) : st'.2 = st.2 := by
  obtain ⟨_, _, he⟩ := zam he
  cases he
  rfl
theorem zqW {st st' : GSt} {n : Nd} : ∀ (w : LeafW), zcY s st w = .ok (n, st') -> st'.2 = st.2
  | .days, he => by
    obtain ⟨⟨x, a⟩, h1, he⟩ := zam he
    obtain ⟨⟨y, b⟩, h2, he⟩ := zam he
    cases he
    rw [zbk h2, zbk h1]
  | .years, he => by
    obtain ⟨⟨x, a⟩, h1, he⟩ := zam he
    obtain ⟨⟨y, b⟩, h2, he⟩ := zam he
    obtain ⟨⟨z, c⟩, h3, he⟩ := zam he
    cases he
    rw [zbk h3, zbk h2, zbk h1]
  | .months, he | .monthdays, he | .weeks, he => by
    obtain ⟨⟨x, a⟩, h1, he⟩ := zam he
    obtain ⟨⟨y, b⟩, h2, he⟩ := zam he
    cases he
    rw [zib h2, zbk h1]
  | .weekdays, he => by
    obtain ⟨⟨y, b⟩, h2, he⟩ := zam he
    cases he
    exact zib h2
  | .nth, he => by
    obtain ⟨⟨x, a⟩, h1, he⟩ := zam he
    obtain ⟨_, _, he⟩ := zam he
    obtain ⟨⟨y, b⟩, h2, he⟩ := zam he
    obtain ⟨⟨z, c⟩, h3, he⟩ := zam he
    obtain ⟨⟨u, d⟩, h4, he⟩ := zam he
    cases he
    rw [zk0 h4, zbk h3, zbk h2, zbk h1]
theorem zkZ {st st' : GSt} {n : Nd} : ∀ (w : SufW), gSuf s st w = .ok (n, st') -> st'.2 = st.2
  | .shift, he | .from_, he | .until_, he => by
    obtain ⟨⟨x, a⟩, h1, he⟩ := zam he
    cases he
    exact zbk h1
  | .also, he | .except_, he => by
    obtain ⟨⟨x, a⟩, h1, he⟩ := zam he
    cases he
    exact zib h1
  | .pos, he => by
    obtain ⟨⟨x, a⟩, h1, he⟩ := zam he
    obtain ⟨⟨y, b⟩, h2, he⟩ := zam he
    obtain ⟨⟨z, c⟩, h3, he⟩ := zam he
    cases he
    rw [zib h3, zk0 h2, zbk h1]
  | .behind, he => by
    obtain ⟨⟨x, a⟩, h1, he⟩ := zam he
    obtain ⟨b, h2, he⟩ := zam he
    cases he
    rw [zdj h2, zbk h1]
def SzOk (st : GSt) (t : Tr) (st' : GSt) : Md -> Prop
  | .binL _ t0 => st'.2 + (t0.size : Int) = st.2 + (t.size : Int)
  | .chainL t0 => st'.2 + (t0.size : Int) = st.2 + (t.size : Int)
  | _ => st'.2 = st.2 + (t.size : Int)
theorem zoT {r : Md -> GSt -> GE (Tr × GSt)} (hr : ∀ md st t st', r md st = .ok (t, st') -> SzOk st t st' md) : ∀ md st t st', zbf s r md st = .ok (t, st') -> SzOk st t st' md
  | .bin i, st, t, st', he => by
    rw [zbf] at he
    split at he
    · exact hr .chain _ _ _ he
    · obtain ⟨⟨u, a⟩, h1, he⟩ := zam he
      have k1 : a.2 = st.2 + (u.size : Int) := hr _ _ _ _ h1
      have k2 : st'.2 + (u.size : Int) = a.2 + (t.size : Int) := hr _ _ _ _ he
      show st'.2 = st.2 + (t.size : Int)
      omega
  | .binL i t0, st, t, st', he => by
    rw [zbf] at he
    split at he
    · obtain ⟨a, h1, he⟩ := zam he
      obtain ⟨⟨u, b⟩, h2, he⟩ := zam he
      have k1 := zcO h1
      have k2 : b.2 = a.2 + (u.size : Int) := hr _ _ _ _ h2
      have k3 : st'.2 + ((t0.size + u.size + 1 : Nat) : Int) = b.2 + (t.size : Int) := hr _ _ _ _ he
      show st'.2 + (t0.size : Int) = st.2 + (t.size : Int)
      omega
    · cases he; rfl
  | .chain, st, t, st', he => by
    rw [zbf] at he
    obtain ⟨⟨u, a⟩, h1, he⟩ := zam he
    have k1 : a.2 = st.2 + (u.size : Int) := hr _ _ _ _ h1
    have k2 : st'.2 + (u.size : Int) = a.2 + (t.size : Int) := hr _ _ _ _ he
    show st'.2 = st.2 + (t.size : Int)
    omega
  | .chainL t0, st, t, st', he => by
    show st'.2 + (t0.size : Int) = st.2 + (t.size : Int)
    rw [zbf] at he
    split at he
    · split at he
      · cases he; rfl
      · obtain ⟨a, h1, he⟩ := zam he
        obtain ⟨⟨n, b⟩, h2, he⟩ := zam he
        obtain ⟨⟨u, c⟩, h3, he⟩ := zam he
        have k1 := zcO h1
        have k2 := zkZ _ h2
        have k3 : c.2 = b.2 + (u.size : Int) := hr _ _ _ _ h3
        have k4 : st'.2 + ((t0.size + u.size + 1 : Nat) : Int) = c.2 + (t.size : Int) := hr _ _ _ _ he
        omega
      · obtain ⟨a, h1, he⟩ := zam he
        obtain ⟨⟨n, b⟩, h2, he⟩ := zam he
        have k1 := zcO h1
        have k2 := zkZ _ h2
        have k4 : st'.2 + ((t0.size + 1 : Nat) : Int) = b.2 + (t.size : Int) := hr _ _ _ _ he
        omega
    · cases he; rfl
  | .prim, st, t, st', he => by
    show st'.2 = st.2 + (t.size : Int)
    rw [zbf] at he
    split at he
    · obtain ⟨⟨u, a⟩, h1, he⟩ := zam he
      obtain ⟨b, h2, he⟩ := zam he
      cases he
      have k1 : a.2 = (gAdv s st).2 + (t.size : Int) := hr _ _ _ _ h1
      have k2 := zdj h2
      have k3 : (gAdv s st).2 = st.2 := rfl
      omega
    · split at he
      · obtain ⟨_, _, he⟩ := zam he
        obtain ⟨a, h1, he⟩ := zam he
        cases he
        exact zcO h1
      · obtain ⟨_, h0, he⟩ := zam he
        split at he
        · cases he
        · obtain ⟨a, h1, he⟩ := zam he
          obtain ⟨⟨n, b⟩, h2, he⟩ := zam he
          cases he
          rw [zqW _ h2]
          exact zcO h1
theorem zpM : ∀ (k : Nat) md st t st', prs s k md st = .ok (t, st') -> SzOk st t st' md
  | 0, _, _, _, _, he => by cases he
  | k + 1, md, st, t, st', he => zoT (zpM k) md st t st' he
theorem zhW {md : Md} {st st' : GSt} {t : Tr} (he : prsT s md st = .ok (t, st')) : SzOk st t st' md := zpM _ _ _ _ _ he
theorem zgn {i : Nat} {st : GSt} (h : GOk s st) (hi : 3 ≤ i) : prsT s (.bin i) st = prsT s .chain st := by
  rw [zci h, zbf, if_pos hi]
theorem zfX {i : Nat} {st : GSt} (h : GOk s st) (hi : ¬ 3 ≤ i) : prsT s (.bin i) st = (prsT s (.bin (i + 1)) st >>= fun p => prsT s (.binL i p.1) p.2) := by
  rw [zci h, zbf, if_neg hi]
theorem zhr {i : Nat} {t : Tr} {st : GSt} (h : GOk s st) (hi : gIs st (opW i) = false) : prsT s (.binL i t) st = .ok (t, st) := by
  rw [zci h, zbf, if_neg (by rw [hi]; decide)]
theorem zhq {i : Nat} {t : Tr} {st : GSt} (h : GOk s st) (hi : gIs st (opW i) = true) : prsT s (.binL i t) st = (zbH s st >>= fun st => prsT s (.bin (i + 1)) st >>= fun p => prsT s (.binL i (.bin (opK i, zNd.2) t p.1)) p.2) := by
  rw [zci h, zbf, if_pos hi]
theorem zhp {st : GSt} (h : GOk s st) : prsT s .chain st = (prsT s .prim st >>= fun p => prsT s (.chainL p.1) p.2) := by
  rw [zci h, zbf]
theorem zdI {t : Tr} {st : GSt} (h : GOk s st) (hc : Tok.cls st.1 ≠ 1) : prsT s (.chainL t) st = .ok (t, st) := by
  rw [zci h, zbf, if_neg hc]
theorem zfF {t : Tr} {st : GSt} (h : GOk s st) (hc : Tok.cls st.1 = 1) (hw : sufW (Tok.text st.1) = none) : prsT s (.chainL t) st = .ok (t, st) := by
  rw [zci h, zbf, if_pos hc, hw]
def sufT (t : Tr) (st : GSt) : SufW -> GE (Tr × GSt)
  | .behind => gSuf s st .behind >>= fun p => prsT s .prim p.2 >>= fun u => .ok (.bin p.1 t u.1, u.2)
  | w => gSuf s st w >>= fun p => .ok (.un p.1 t, p.2)
theorem zfG {t : Tr} {st : GSt} {w : SufW} (h : GOk s st) (hc : Tok.cls st.1 = 1) (hw : sufW (Tok.text st.1) = some w) : prsT s (.chainL t) st = (zbH s st >>= fun st => sufT (s := s) t st w >>= fun p => prsT s (.chainL p.1) p.2) := by
  rw [zci h, zbf, if_pos hc, hw]
  cases w <;> (
    simp only [sufT]
    cases zbH s st with
    | error e => rfl
    | ok a =>
      show (gSuf s a _ >>= _) = ((gSuf s a _ >>= _) >>= _)
      cases gSuf s a _ with
      | error e => rfl
      | ok p =>
        first
        | rfl
        | (show (prsT s .prim p.2 >>= _) = ((prsT s .prim p.2 >>= _) >>= _)
           cases prsT s .prim p.2 <;> rfl))
end
section
variable {s : List UInt8}
def Er {α : Type} (s : List UInt8) (m : Except (Int × Int) α) : Prop := ∀ er, m = .error er -> 0 ≤ er.1 ∧ er.1 ≤ ((s.length : Nat) : Int)
theorem zaz {α β : Type} {m : Except (Int × Int) α} {f : α -> Except (Int × Int) β} (h1 : Er s m) (h2 : ∀ x, m = .ok x -> Er s (f x)) : Er s (m >>= f) := by
  intro er he
  cases hm : m with
  | error e =>
    rw [hm] at he
    have he : (.error e : Except (Int × Int) β) = .error er := he
    cases he
    exact h1 _ hm
  | ok x =>
    rw [hm] at he
    exact h2 x hm er he
theorem zcP {α : Type} {x : α} : Er s (.ok x : Except (Int × Int) α) := fun _ h => by cases h
theorem zpp {α : Type} {st : GSt} {e : Int} (h : GOk s st) : Er s (.error (Tok.at st.1, e) : Except (Int × Int) α) := fun er he => by
  cases he
  obtain ⟨⟨⟨a1, a2, a3⟩, _⟩, _⟩ := h
  exact ⟨a1, by show Tok.at st.1 ≤ _; omega⟩
theorem zbP {st : GSt} {b : Bool} {e : Int} (h : GOk s st) : Er s (zaB st b e) := by
  unfold zaB
  split
  · exact zcP
  · exact zpp h
theorem zdR {st : GSt} {w : List UInt8} (h : GOk s st) : Er s (zaQ s st w) := zaz (zbP h) fun _ _ => zcP
theorem ze1 {st : GSt} (h : GOk s st) : Er s (zbH s st) := zaz (zbP h) fun _ _ => zcP
theorem zbz {st : GSt} {lo hi : Int} (h : GOk s st) : Er s (zaI s st lo hi) := zaz (zbP h) fun _ _ => zaz (zbP h) fun _ _ => zcP
theorem zk5 {lo hi : Int} {z : Bool} : ∀ (k : Nat) {st : GSt} {l : List Int}, GOk s st -> Er s (zcc s lo hi z k st l)
  | 0, _, _, h => zpp h
  | k + 1, st, l, h => by
    unfold zcc
    split
    · exact zcP
    · exact zaz (zbP h) fun _ _ => zaz (zbP h) fun _ _ => zaz (zbP h) fun _ _ => zaz (zbz h) fun p hp => zk5 k (zap h hp).1.1
theorem zid {st : GSt} {lo hi : Int} {z : Bool} (h : GOk s st) : Er s (zcX s st lo hi z) :=
  zaz (zdR h) fun a ha => zaz (zk5 _ (za9 h ha).1) fun p hp => zaz (zdR (by
    rcases zgK _ (za9 h ha).1 hp with e | k
    · rw [e]; exact (za9 h ha).1
    · exact k.1)) fun _ _ => zcP
theorem zk4 {st : GSt} (h : GOk s st) : Er s (zdi s st) := zaz (zbP h) fun _ _ => zcP
theorem zrd {st : GSt} (h : GOk s st) : ∀ w : LeafW, Er s (zcY s st w)
  | .days => zaz (zbz h) fun p hp => zaz (zbz (zap h hp).1.1) fun _ _ => zcP
  | .years => zaz (zbz h) fun p hp => zaz (zbz (zap h hp).1.1) fun q hq => zaz (zbz (zap (zap h hp).1.1 hq).1.1) fun _ _ => zcP
  | .months | .monthdays | .weeks => zaz (zbz h) fun p hp => zaz (zid (zap h hp).1.1) fun _ _ => zcP
  | .weekdays => zaz (zid h) fun _ _ => zcP
  | .nth => zaz (zbz h) fun p hp => zaz (zbP (zap h hp).1.1) fun _ _ => zaz (zbz (zap h hp).1.1) fun q hq => zaz (zbz (zap (zap h hp).1.1 hq).1.1) fun r hr => zaz (zk4 (zap (zap (zap h hp).1.1 hq).1.1 hr).1.1) fun _ _ => zcP
theorem zpV {st : GSt} (h : GOk s st) : ∀ w : SufW, Er s (gSuf s st w)
  | .shift | .from_ | .until_ => zaz (zbz h) fun _ _ => zcP
  | .also | .except_ => zaz (zid h) fun _ _ => zcP
  | .pos => zaz (zbz h) fun p hp => zaz (zk4 (zap h hp).1.1) fun q hq => zaz (zid (zdO (zap h hp).1.1 hq).1) fun _ _ => zcP
  | .behind => zaz (zbz h) fun p hp => zaz (zdR (zap h hp).1.1) fun _ _ => zcP
theorem zfq {md : Md} {st st' : GSt} (h : GOk s st) (k : Cons s st st' md) : GOk s st' := by
  cases md with
  | bin i => exact k.1
  | chain => exact k.1
  | prim => exact k.1
  | binL i t =>
    rcases k with rfl | k
    · exact h
    · exact k.1
  | chainL t =>
    rcases k with rfl | k
    · exact h
    · exact k.1
theorem zdx : ∀ (k : Nat) (md : Md) (st : GSt), GOk s st -> Er s (prs s k md st)
  | 0, _, _, h => zpp h
  | k + 1, .bin i, st, h => by
    unfold prs
    rw [zbf]
    split
    · exact zdx k _ _ h
    · exact zaz (zdx k _ _ h) fun p hp => zdx k _ _ (zfq h (zcw k _ _ _ _ h hp))
  | k + 1, .binL i t, st, h => by
    unfold prs
    rw [zbf]
    split
    · rename_i hi
      refine zaz (ze1 h) fun a ha => ?_
      have k1 := za7 h (zda hi) ha
      exact zaz (zdx k _ _ k1.1) fun p hp => zdx k _ _ (zfq k1.1 (zcw k _ _ _ _ k1.1 hp))
    · exact zcP
  | k + 1, .chain, st, h => by
    unfold prs
    rw [zbf]
    exact zaz (zdx k _ _ h) fun p hp => zdx k _ _ (zfq h (zcw k _ _ _ _ h hp))
  | k + 1, .chainL t, st, h => by
    unfold prs
    rw [zbf]
    split
    · rename_i hc
      split
      · exact zcP
      · refine zaz (ze1 h) fun a ha => ?_
        have k1 := za7 h (by rw [hc]; decide) ha
        refine zaz (zpV k1.1 _) fun p hp => ?_
        have k2 := zdN k1.1 _ hp
        exact zaz (zdx k _ _ k2.1) fun q hq => zdx k _ _ (zfq k2.1 (zcw k _ _ _ _ k2.1 hq))
      · refine zaz (ze1 h) fun a ha => ?_
        have k1 := za7 h (by rw [hc]; decide) ha
        refine zaz (zpV k1.1 _) fun p hp => ?_
        have k2 := zdN k1.1 _ hp
        exact zdx k _ _ k2.1
    · exact zcP
  | k + 1, .prim, st, h => by
    unfold prs
    rw [zbf]
    split
    · rename_i hi
      have k0 := zbV h (zda hi)
      exact zaz (zdx k _ _ k0.1) fun p hp => zaz (zdR (zfq k0.1 (zcw k _ _ _ _ k0.1 hp))) fun _ _ => zcP
    · split
      · exact zaz (zbP h) fun _ _ => zaz (ze1 h) fun _ _ => zcP
      · refine zaz (zbP h) fun u hu => ?_
        have hc := zbl hu
        rw [beq_iff_eq] at hc
        split
        · exact zpp h
        · refine zaz (ze1 h) fun a ha => ?_
          have k1 := za7 h (by rw [hc]; decide) ha
          exact zaz (zrd k1.1 _) fun _ _ => zcP
theorem zrc {st : GSt} (h : GOk s st) : Er s (zet s st) :=
  zaz (zdx _ _ _ h) fun p hp => zaz (zbP (zfq h (zcw _ _ _ _ _ h hp))) fun _ _ => zcP
end
set_option maxRecDepth 100000
def cSym : Ctr := { args := [.str, .str], pre := fun x => [x.1 = [40, 41, 61], ∃ c, x.2.1 = [c]], res := .bool, own := none, out := fun x => decide (0 ≤ Lib.indexByte x.1 (x.2.1.getD 0 0)) }
theorem sym_ok : CtrOk Tryz.prog gmG 132 cSym := by
  refine ⟨Tryz.call132, fun w O xs vs hO hr hp hG => ?_⟩
  obtain ⟨(s : List UInt8), (d : List UInt8), _⟩ := xs
  obtain ⟨h1, c, h2⟩ : s = [40, 41, 61] ∧ ∃ c, d = [c] := hp
  subst h1; subst h2
  obtain ⟨v1, r1, rfl, e1, v2, r2, rfl, e2, rfl⟩ := hr
  have e1 : [v1] = [Value.string ⟨#[40, 41, 61]⟩] ∧ _ := e1
  have e2 : [v2] = [Value.string ⟨#[c]⟩] ∧ _ := e2
  obtain ⟨e1, _⟩ := e1
  obtain ⟨e2, _⟩ := e2
  cases e1
  cases e2
  refine Calls.mono (Any.strings_Contains_one Tryz.lays144 ⟨#[40, 41, 61]⟩ c w) ?_
  rintro e w' ⟨rfl, rfl⟩
  refine ⟨_, rfl, Below.refl _ _, fun β => ?_⟩
  rfl
def zg3 (sk : Nat) : List UInt8 -> TokT
  | [] => (0, (sk : Int), 0, [], 0, ())
  | c :: r =>
    if 0 < zav (c :: r) then (1, (sk : Int), (zav (c :: r) : Nat), (c :: r).take (zav (c :: r)), 0, ())
    else if c = 64 ∧ 0 < zav r then (2, (sk : Int), (zav r : Nat) + 1, r.take (zav r), 0, ())
    else match zcz (c :: r) with
      | some (k, n, t, x) => (k, (sk : Int), (n : Nat), t, x, ())
      | none => if c = 40 ∨ c = 41 ∨ c = 61 then (4, (sk : Int), 1, [c], 0, ()) else (5, (sk : Int), 1, [c], 0, ())
theorem zmC (sk : Nat) (c : UInt8) (r : List UInt8) (h : ¬ 0 < zav (c :: r)) : zg3 sk (c :: r) = (if c = 64 ∧ 0 < zav r then (2, (sk : Int), ((zav r : Nat) : Int) + 1, r.take (zav r), 0, ())
    else match zcz (c :: r) with
      | some (k, n, t, x) => (k, (sk : Int), ((n : Nat) : Int), t, x, ())
      | none => if c = 40 ∨ c = 41 ∨ c = 61 then (4, (sk : Int), 1, [c], 0, ()) else (5, (sk : Int), 1, [c], 0, ()) : TokT) := if_neg h
theorem zqr (s : List UInt8) : zaW s = zg3 (zbr isWh s) (s.drop (zbr isWh s)) := by
  rw [zaW]
  cases s.drop (zbr isWh s) <;> rfl
theorem zml (c : UInt8) : decide (0 ≤ Lib.indexByte [40, 41, 61] c) = true ↔ (c = 40 ∨ c = 41 ∨ c = 61) := by
  have key : ∀ n : Fin 256, decide (0 ≤ Lib.indexByte [40, 41, 61] (UInt8.ofNat n.val)) = decide (n.val = 40 ∨ n.val = 41 ∨ n.val = 61) := by decide +kernel
  have h := key ⟨c.toNat, UInt8.toNat_lt c⟩
  simp only [UInt8.ofNat_toNat] at h
  rw [h, decide_eq_true_iff]
  constructor
  · rintro (h | h | h)
    · exact .inl (UInt8.toNat_inj.1 h)
    · exact .inr (.inl (UInt8.toNat_inj.1 h))
    · exact .inr (.inr (UInt8.toNat_inj.1 h))
  · rintro (rfl | rfl | rfl) <;> decide
def cScan : Ctr := { args := [.str], pre := fun x => [List.length x.1 ≤ 100000], res := tk, own := none, out := fun x => zaW x.1 }
def kSc : Kn := { gmK with C := [(52, zkj 53 isWh), (65, zig), (131, zlc), (132, cSym)] }
theorem za4 : KnOk Tryz.prog gmH kSc := zaj.with (.cons ziF.lift <| .cons zhf.lift <| .cons zlR <| .cons sym_ok.lift .nil)
theorem zqq : CtrOk Tryz.prog gmH 79 cScan := by
  refine zaq (K := kSc) za4 Tryz.func79 rfl rfl Tryz.call79 rfl (by decide) (by intro h; cases h) ?_
  rintro w0 X hX ⟨(s : List UInt8), _⟩ hp
  have hlen : s.length ≤ 100000 := hp
  change AWP _ _ _ _ _ ⟨[(0, ⟨.str, s⟩)], [], 0⟩ _
  (repeat (first | refine zae ?_ | refine zac ?_ | refine zab ?_ | refine zad ?_)); refine zaa hX za4 rfl ?_ ?_
  · trivial
  (repeat (first | refine zae ?_ | refine zac ?_ | refine zab ?_ | refine zad ?_)); refine zaa hX za4 rfl ?_ ?_
  · exact rfl
  have hsk := zhO isWh s
  have q0 : (0 : Int) ≤ ((zbr isWh s : Nat) : Int) := by omega
  have q1 : ((zbr isWh s : Nat) : Int) ≤ ((s.length : Nat) : Int) := by omega
  (repeat (first | refine zae ?_ | refine zac ?_ | refine zab ?_ | refine zad ?_)); refine zaa hX za4 rfl ?_ ?_
  · exact ⟨q0, q1⟩
  obtain ⟨u, hu⟩ : ∃ u, u = s.drop (zbr isWh s) := ⟨_, rfl⟩
  have hul : u.length ≤ 100000 := by rw [hu, List.length_drop]; omega
  refine zan (σ' := ⟨[(0, ⟨.str, u⟩), (2, ⟨.optr tk, ⟨0, tk, .here⟩⟩), (3, ⟨i64, ((zbr isWh s : Nat) : Int)⟩)], [(0, some (.box tk zTk))], 1⟩) ⟨⟨?_, rfl, rfl, trivial⟩, ⟨rfl, trivial⟩, rfl, rfl⟩ ?_
  · show (⟨.str, List.drop (((zbr isWh s : Nat) : Int)).toNat s⟩ : V) = ⟨.str, u⟩
    rw [Int.toNat_natCast, hu]
  show AWP _ _ _ _ _ _ (fun e σ => (e = .normal ∨ e = .ret) ∧ Done _ _ σ none tk (zaW s))
  rw [zqr, <- hu]
  generalize zbr isWh s = sk at q0 q1 ⊢
  clear hu hsk hlen q1 hp
  cases u with
  | nil =>
    (repeat (first | refine zae ?_ | refine zac ?_ | refine zab ?_ | refine zad ?_)); refine zaa hX za4 rfl ?_ ?_
    · trivial
    refine zai rfl (fun _ => ?_) (fun hb => ?_)
    · (repeat (first | refine zae ?_ | refine zac ?_ | refine zak ?_ | refine zad ?_ | refine zab ?_ | refine zaa hX za4 rfl trivial ?_ | refine zaa hX za4 rfl id ?_ | refine zaa hX za4 rfl ⟨id, id⟩ ?_))
      exact AWP.ret ⟨.inr rfl, zay rfl trivial rfl rfl rfl⟩
    · have hb : eqb .str ([] : List UInt8) [] = false := hb
      rw [zbc.2 rfl] at hb
      cases hb
  | cons c r =>
    have hrl : r.length ≤ 100000 := by rw [List.length_cons] at hul; omega
    have n1 : (1 : Int) ≤ (((c :: r).length : Nat) : Int) := by rw [List.length_cons]; omega
    have n2 : (0 : Int) < (((c :: r).length : Nat) : Int) := by rw [List.length_cons]; omega
    (repeat (first | refine zae ?_ | refine zac ?_ | refine zab ?_ | refine zad ?_)); refine zaa hX za4 rfl ?_ ?_
    · trivial
    refine zai rfl (fun hb => ?_) (fun _ => ?_)
    · have hb : eqb .str (c :: r : List UInt8) [] = true := hb
      cases zbc.1 hb
    refine zac ?_
    (repeat (first | refine zae ?_ | refine zac ?_ | refine zab ?_ | refine zad ?_)); refine zaa hX za4 rfl ?_ ?_
    · exact ⟨(by decide : (0 : Int) ≤ 1), n1⟩
    refine zan (σ' := ⟨[(0, ⟨.str, (c :: r : List UInt8)⟩), (2, ⟨.optr tk, ⟨0, tk, .here⟩⟩), (3, ⟨i64, (sk : Int)⟩), (4, ⟨.optr tk, ⟨1, tk, .here⟩⟩)], [(0, some (.box tk zTk)), (1, some (.box tk (5, 0, 1, [c], 0, ())))], 2⟩) ⟨⟨rfl, rfl, rfl, rfl, trivial⟩, ⟨rfl, rfl, trivial⟩, rfl, rfl⟩ ?_
    have hwl := zdW (c :: r)
    refine AWP.via (σ' := ⟨[(2, ⟨.optr tk, ⟨0, tk, .here⟩⟩), (3, ⟨i64, (sk : Int)⟩), (4, ⟨.optr tk, ⟨1, tk, .here⟩⟩)], [(0, some (.box tk zTk)), (1, some (.box tk ((zg3 sk (c :: r)).1, 0, (zg3 sk (c :: r)).2.2)))], 2⟩) ?_ ?_
    · (repeat (first | refine zae ?_ | refine zac ?_ | refine zab ?_ | refine zad ?_)); refine zaa hX za4 rfl ?_ ?_
      · trivial
      have w0' : (0 : Int) ≤ ((zav (c :: r) : Nat) : Int) := by omega
      have w1' : ((zav (c :: r) : Nat) : Int) ≤ (((c :: r).length : Nat) : Int) := by omega
      (repeat (first | refine zae ?_ | refine zac ?_ | refine zab ?_ | refine zad ?_)); refine zaa hX za4 rfl ?_ ?_
      · trivial
      refine zai rfl (fun hb => ?_) (fun hb => ?_)
      · have hb : decide (((zav (c :: r) : Nat) : Int) > 0) = true := hb
        have hb := of_decide_eq_true hb
        (repeat (first | refine zae ?_ | refine zac ?_ | refine zab ?_ | refine zad ?_)); refine zaa hX za4 rfl ?_ ?_
        · exact ⟨w0', w1'⟩
        refine ⟨⟨rfl, rfl, rfl, trivial⟩, ⟨rfl, ze5 ?_, trivial⟩, rfl, rfl⟩
        rw [zg3, if_pos (by omega)]
        show ((1 : Int), (0 : Int), ((zav (c :: r) : Nat) : Int), List.take (((zav (c :: r) : Nat) : Int)).toNat (c :: r), (0 : Int), ()) = _
        rw [Int.toNat_natCast]
      · have hb : decide (((zav (c :: r) : Nat) : Int) > 0) = false := hb
        have hb0 := of_decide_eq_false hb
        have e0 := zmC sk c r (by omega)
        rw [e0]
        have hwr := zdW r
        have v0 : (0 : Int) ≤ 1 := by decide
        (repeat (first | refine zae ?_ | refine zac ?_ | refine zab ?_ | refine zad ?_)); refine zaa hX za4 rfl ?_ ?_
        · exact ⟨v0, n1⟩
        refine zan (σ' := ⟨[(0, ⟨.str, (c :: r : List UInt8)⟩), (2, ⟨.optr tk, ⟨0, tk, .here⟩⟩), (3, ⟨i64, (sk : Int)⟩), (4, ⟨.optr tk, ⟨1, tk, .here⟩⟩), (6, ⟨i64, ((zav r : Nat) : Int)⟩)], [(0, some (.box tk zTk)), (1, some (.box tk (5, 0, 1, [c], 0, ())))], 2⟩) ⟨⟨rfl, rfl, rfl, rfl, rfl, trivial⟩, ⟨rfl, rfl, trivial⟩, rfl, rfl⟩ ?_
        (repeat (first | refine zae ?_ | refine zac ?_ | refine zab ?_ | refine zad ?_)); refine zaa hX za4 rfl ?_ ?_
        · exact ⟨Int.le_refl 0, n2, fun h => h, fun h => h⟩
        have ht : (bif (((c.toNat : Nat) : Int) == (((64 : UInt8).toNat : Nat) : Int)) then decide (((zav r : Nat) : Int) > 0) else false) = decide (c = 64 ∧ 0 < zav r) := by
          rw [u8eq, zca, Bool.eq_iff_iff, Bool.and_eq_true, beq_iff_eq, decide_eq_true_iff, decide_eq_true_iff]
          constructor
          · rintro ⟨h1, h2⟩; exact ⟨h1, by omega⟩
          · rintro ⟨h1, h2⟩; exact ⟨h1, by omega⟩
        refine zai rfl (fun hb => ?_) (fun hb => ?_)
        · have hb := of_decide_eq_true (ht.symm.trans hb)
          have g1 : inR .i64 (((zav r : Nat) : Int) + 1) := zat (by omega) (by omega)
          have g2 : (1 : Int) ≤ ((zav r : Nat) : Int) + 1 := by omega
          have g3 : ((zav r : Nat) : Int) + 1 ≤ (((c :: r).length : Nat) : Int) := by rw [List.length_cons]; omega
          (repeat (first | refine zae ?_ | refine zac ?_ | refine zab ?_ | refine zad ?_)); refine zaa hX za4 rfl ?_ ?_
          · exact ⟨g1, g1, v0, g2, g3⟩
          refine ⟨⟨rfl, rfl, rfl, trivial⟩, ⟨rfl, ze5 ?_, trivial⟩, rfl, rfl⟩
          rw [if_pos hb]
          have e1 : (((zav r : Nat) : Int) + 1).toNat = zav r + 1 := by omega
          show ((2 : Int), (0 : Int), ((zav r : Nat) : Int) + 1, List.drop (1 : Int).toNat (List.take (((zav r : Nat) : Int) + 1).toNat (c :: r)), (0 : Int), ()) = _
          rw [e1]
          rfl
        · have hb := of_decide_eq_false (ht.symm.trans hb)
          rw [if_neg hb]
          (repeat (first | refine zae ?_ | refine zac ?_ | refine zab ?_ | refine zad ?_)); refine zaa hX za4 rfl ?_ ?_
          · exact ⟨(by intro h; cases h), hul⟩
          refine zan (σ' := ⟨[(0, ⟨.str, (c :: r : List UInt8)⟩), (2, ⟨.optr tk, ⟨0, tk, .here⟩⟩), (3, ⟨i64, (sk : Int)⟩), (4, ⟨.optr tk, ⟨1, tk, .here⟩⟩), (7, ⟨.optr tk, ⟨2, tk, .here⟩⟩), (8, ⟨.bool, (zed (c :: r)).2.1⟩)], [(0, some (.box tk zTk)), (1, some (.box tk (5, 0, 1, [c], 0, ()))), (2, some (.box tk (zed (c :: r)).1))], 3⟩) ⟨⟨rfl, rfl, rfl, rfl, rfl, rfl, trivial⟩, ⟨rfl, rfl, rfl, trivial⟩, rfl, rfl⟩ ?_
          unfold zed
          cases zcz (c :: r) with
          | some q =>
            obtain ⟨k, n, t, x⟩ := q
            (repeat (first | refine zae ?_ | refine zac ?_ | refine zak ?_ | refine zad ?_ | refine zab ?_ | refine zaa hX za4 rfl trivial ?_ | refine zaa hX za4 rfl id ?_ | refine zaa hX za4 rfl ⟨id, id⟩ ?_))
            refine zai rfl (fun _ => ?_) (fun hb => absurd (show true = false from hb) (by decide))
            (repeat (first | refine zae ?_ | refine zac ?_ | refine zak ?_ | refine zad ?_ | refine zab ?_ | refine zaa hX za4 rfl trivial ?_ | refine zaa hX za4 rfl id ?_ | refine zaa hX za4 rfl ⟨id, id⟩ ?_))
            exact ⟨⟨rfl, rfl, rfl, trivial⟩, ⟨rfl, rfl, trivial⟩, rfl, rfl⟩
          | none =>
            (repeat (first | refine zae ?_ | refine zac ?_ | refine zak ?_ | refine zad ?_ | refine zab ?_ | refine zaa hX za4 rfl trivial ?_ | refine zaa hX za4 rfl id ?_ | refine zaa hX za4 rfl ⟨id, id⟩ ?_))
            refine zai rfl (fun hb => absurd (show false = true from hb) (by decide)) (fun _ => ?_)
            (repeat (first | refine zae ?_ | refine zac ?_ | refine zab ?_ | refine zad ?_)); refine zaa hX za4 rfl ?_ ?_
            · exact ⟨v0, n1, rfl, ⟨c, rfl⟩⟩
            refine zai rfl (fun hb => ?_) (fun hb => ?_)
            · have hb := (zml c).1 hb
              (repeat (first | refine zae ?_ | refine zac ?_ | refine zak ?_ | refine zad ?_ | refine zab ?_ | refine zaa hX za4 rfl trivial ?_ | refine zaa hX za4 rfl id ?_ | refine zaa hX za4 rfl ⟨id, id⟩ ?_))
              refine ⟨⟨rfl, rfl, rfl, trivial⟩, ⟨rfl, ze5 ?_, trivial⟩, rfl, rfl⟩
              simp only [if_pos hb]
            · have hn : ¬ (c = 40 ∨ c = 41 ∨ c = 61) := fun h => by
                have := (zml c).2 h
                have hb : decide (0 ≤ Lib.indexByte [40, 41, 61] c) = false := hb
                rw [hb] at this
                cases this
              refine zac ?_
              refine ⟨⟨rfl, rfl, rfl, trivial⟩, ⟨rfl, ze5 ?_, trivial⟩, rfl, rfl⟩
              simp only [if_neg hn]
    · have hat : (zg3 sk (c :: r)).2.1 = (sk : Int) := by
        rw [zg3]
        split
        · rfl
        · split
          · rfl
          · split
            · rfl
            · split <;> rfl
      (repeat (first | refine zae ?_ | refine zac ?_ | refine zak ?_ | refine zad ?_ | refine zab ?_ | refine zaa hX za4 rfl trivial ?_ | refine zaa hX za4 rfl id ?_ | refine zaa hX za4 rfl ⟨id, id⟩ ?_))
      refine AWP.ret ⟨.inr rfl, zay rfl trivial rfl rfl ?_⟩
      show ((zg3 sk (c :: r)).1, (sk : Int), (zg3 sk (c :: r)).2.2) = zg3 sk (c :: r)
      rw [<- hat]
abbrev PsT := List UInt8 × TokT × List Nd × Int × Unit
def stOf (x : PsT) : GSt := (x.2.1, x.2.2.2.1)
abbrev psX (s : List UInt8) (st : GSt) (l : List Nd) : PsT := (s, st.1, l, st.2, ())
def pOk (x : PsT) : Prop := GOk x.1 (stOf x) ∧ x.1.length ≤ 100000
def pvS (e : Int × Int) : Value := .iface 133 (.agg #[.int .i64 e.1, .int .i64 e.2])
def toX {α β : Type} (f : α -> β) : Except (Int × Int) α -> Except Value β
  | .ok a => .ok (f a)
  | .error e => .error (pvS e)
@[reducible] def hP (args : List Ty) (res : Ty) (pre : PsT -> Args args -> List Prop) (out : PsT -> Args args -> Except Value (res.T × PsT)) : HCtr :=
  { self := ps, k := 6, te := 73, et := nd, sl := fun x => x.2.2.1, args := args, inv := ginv, pre := fun x xs => pOk x :: pre x xs, res := res, out := out }
theorem za6 {args : List Ty} {res : Ty} {pre : PsT -> Args args -> List Prop} {out : PsT -> Args args -> Except Value (res.T × PsT)} : (hP args res pre out).law := ⟨rfl, fun _ => rfl, fun a h => by cases h⟩
@[reducible] def pBox (ty : TypeId) (s : List UInt8) (st : GSt) : OObj := .hbox ty [⟨.str, s⟩, ⟨i64, st.1.1⟩, ⟨i64, st.1.2.1⟩, ⟨i64, st.1.2.2.1⟩, ⟨.str, st.1.2.2.2.1⟩, ⟨i64, st.1.2.2.2.2.1⟩, ⟨.obuf nd, (1 : Nat)⟩, ⟨i64, st.2⟩]
@[reducible] def pE (ty : TypeId) (s : List UInt8) (st : GSt) (l : List Nd) : Owns := [(0, some (pBox ty s st)), (1, some (.buf 73 nd l))]
@[reducible] def pSelf : V := ⟨.hptr, ((0 : Nat), (0 : Nat))⟩
def pQ (rs : List ResultVar) (c : HCtr) (ty : TypeId) (r : Except Value (c.res.T × c.self.T)) (e : Exit) (σ : AS) : Prop := zoj gmT rs c ty e σ r
theorem zfI {rs : List ResultVar} {c : HCtr} {ty : TypeId} {pv : Value} {σ : AS} : pQ rs c ty (.error pv) (.panic [{ v := pv, recovered := false }]) σ := rfl
theorem zal {α β γ : Type} {f : β -> γ} {e : Except (Int × Int) α} {k : α -> Except (Int × Int) β} {er : Int × Int} (h : e = .error er) : toX f (e >>= k) = .error (pvS er) := by rw [h]; rfl
theorem zao {α β γ : Type} {f : β -> γ} {e : Except (Int × Int) α} {k : α -> Except (Int × Int) β} {a : α} (h : e = .ok a) : toX f (e >>= k) = toX f (k a) := by rw [h]; rfl
section
variable {P : Program} {K : Kn} {w0 : World} {X : Ownr} {n : Nat} {σ : AS} {Q : Exit -> AS -> Prop} {ops : Array Oper}
theorem zax (m : Nat) (hX : X.Ok w0) (hK : KnOk P X.G K) {C : List (FuncId × HCtr)} (hC : HsOk P X.G C) {l rest : List Oper} {o : Oper} {r : List Prop × AS} (hs : aSeq K n ops (l.take m) σ = some r) (hp : allP r.1) (hl : l.drop m = o :: rest) {s : HSite} (hsite : zl0 C n o r.2 = some s)
    (hq : allP s.q) (hinv : ∀ w R, (∀ g, R g -> w0.heap.size ≤ g ∨ X.R g) -> X.G w -> s.c.inv w R s.ty) {α : Type} {f : α -> s.c.res.T × s.c.self.T} {e : Except (Int × Int) α} (hout : s.c.out s.x s.xs = toX f e)
    (herr : ∀ er, e = .error er -> Q (.panic [{ v := pvS er, recovered := false }]) s.lost) (h : ∀ a, e = .ok a -> AL P w0 X n ops rest (s.next (f a).1 (f a).2) Q)
    (hgd : o.guard = none := by rfl) (hnd : ∀ c, o.op ≠ .defer c := by intro c e; cases e) (hd : zbm (l.take m) = true := by rfl) : AL P w0 X n ops l σ Q := by
  refine AL.own m hX hK hC hs hp hl hsite hq hinv ?_ hgd hnd hd
  rw [hout]
  cases e with
  | error er => exact herr er rfl
  | ok a => exact h a rfl
end
section
variable {P : Program} {K : Kn} {w0 : World} {X : Ownr} {n : Nat} {Q : Exit -> AS -> Prop} {ops : Array Oper}
theorem AL.ownVM (hX : X.Ok w0) {o : Oper} {rest : List Oper} {f : FuncId} {c : HCtr} (hc : zaA P X.G f c) {y a0 : Operand} {args : Array Operand} {ts : Array TypeId} (ho : o.op = .call ⟨.value y, args, ts⟩) (hargs : args = #[a0]) (hgd : o.guard = none)
    {F : Frame} {E : Owns} {nx : Nat} (hy : evO F y = ⟨.lit, .func (.func f) #[] #[]⟩)
    {i : Nat} (hev : evO F a0 = ⟨.hptr, (i, (0 : Nat))⟩) {ty : TypeId} {vs : List V} (hbox : Owns.get E i = some (.hbox ty vs)) {et : Ty} {j : Nat} (hk : vs[c.k]? = some ⟨.obuf et, j⟩) {xsl : List c.et.T} (hbuf : Owns.get E j = some (.buf c.te c.et xsl))
    {x : c.self.T} (hun : unD c.self ((c.back i vs).set c.k ⟨.slice c.et, xsl⟩) = some (x, [])) (hd : zaY c.args = true) (hfl : c.res.resOk = true)
    {q : List Prop} {xs : Args c.args} (hav : zdU E false [] c.args = some (q, xs)) (hq : allP q) (hpre : allP (c.pre x xs)) (hinv : ∀ w R, (∀ g, R g -> w0.heap.size ≤ g ∨ X.R g) -> X.G w -> c.inv w R ty) {F' : c.res.T -> Frame} (hput : ∀ y, putD n o.dst (resV c.res y) (Frame.kill j F) = some (F' y))
    {α : Type} {g : α -> c.res.T × c.self.T} {e : Except (Int × Int) α} (hout : c.out x xs = toX g e) (herr : ∀ er, e = .error er -> Q (.panic [{ v := pvS er, recovered := false }]) ⟨F, (i, none) :: (j, none) :: E, nx⟩)
    (h : ∀ a, e = .ok a -> AL P w0 X n ops rest ⟨F' (g a).1, (i, some (.hbox ty (c.lv i j (g a).2))) :: (j, some (.buf c.te c.et (c.sl (g a).2))) :: Owns.kill j E, nx⟩ Q) : AL P w0 X n ops (o :: rest) ⟨F, E, nx⟩ Q := by
  refine AL.ownV hX hc ho hargs hgd hy hev hbox hk hbuf hun hd hfl hav hq hpre hinv hput ?_
  rw [hout]
  cases e with
  | error er => exact herr er rfl
  | ok a => exact h a rfl
end
theorem zjP {P : Program} {w : World} {t : TypeId} {fs : Array Field} (h : P.underlying t = some (.struct fs)) (x : Value) : (Instr.makeInterface t x).run P w = .ok (.iface t x) w := by
  unfold Instr.makeInterface
  simp [run_underlying h]
theorem zge {P : Program} {w : World} (t : TypeId) (x : Value) : (Instr.panic (.iface t x)).run P w = .halt (.panic (.iface t x)) w := by
  simp [Instr.panic, Sem.run]
@[reducible] def zrp : HCtr := hP [i64] .unit (fun _ _ => []) fun x xs => .error (pvS (Tok.at x.2.1, xs.1))
theorem zq9 : zaA Tryz.prog gmH 137 zrp := by
  refine zar (K := gmK) zaj Tryz.func137 rfl rfl za6 Tryz.call137 rfl (by decide) zaN ?_
  rintro w0 ⟨G, O, K, fix, D, ρ, B⟩ ty hX hG hK hρ hD hinv x ⟨(e : Int), ⟨⟩⟩ hp
  obtain rfl : G = gmH := hG
  obtain rfl : K = 1 := hK
  obtain rfl : ρ = none := hρ
  obtain rfl : D = [] := hD
  obtain ⟨s, t, l, b, ⟨⟩⟩ := x
  change AWP _ _ _ _ _ ⟨[(0, pSelf), (1, ⟨i64, e⟩)], pE ty s (t, b) l, 2⟩ (pQ _ zrp ty (.error (pvS (Tok.at t, e))))
  (repeat (first | refine zae ?_ | refine zac ?_ | refine zab ?_ | refine zad ?_)); refine zah ?_
  refine AL.take 7 hX zaj rfl trivial ?_
  refine AL.hand rfl (fun c e => by cases e) fun β a w' hs => ?_
  have h12 : RepD w' _ sto (Tok.at t, e, ()) (a.eval (.tmp 10)) := hs.ops (.tmp 10)
  obtain ⟨cs, h1, c1, c2, rfl, h2, c3, c4, rfl, h3, h4⟩ := (RepD.agg rfl).1 h12
  have h2 : c1 = [Value.int .i64 (Tok.at t)] := h2
  have h3 : c3 = [Value.int .i64 e] := h3
  have h4 : c4 = [] := h4
  subst h2; subst h3; subst h4
  have h1 : a.eval (.tmp 10) = .agg #[.int .i64 (Tok.at t), .int .i64 e] := h1
  refine zbq (u := pvS (Tok.at t, e)) (w' := w') ?_ ⟨⟨(11, ⟨.lit, pvS (Tok.at t, e)⟩) :: _, _, _⟩, β, hs.put (Below.refl _ _) (v := ⟨.lit, pvS (Tok.at t, e)⟩) rfl (Nat.zero_le _) (by show 11 < 12; omega), ?_⟩
  · show (execOp a.eval { dst := some 11, op := Op.makeInterface 133 (.tmp 10), type := _, pos := _, after := _, guard := none }).run _ _ = _
    unfold execOp
    simp only [h1]
    exact zdG (zjP Tryz.underlying133 _)
  refine AL.hand rfl (fun c e => by cases e) fun β a w' hs => ?_
  have h13 : a.eval (.tmp 11) = pvS (Tok.at t, e) := hs.ops (.tmp 11)
  have hrun : (execOp a.eval { dst := none, op := Op.panic (.tmp 11), type := 0, pos := "", after := #[], guard := none }).run Tryz.prog w' = .halt (.panic (pvS (Tok.at t, e))) w' := by
    unfold execOp
    simp only [h13]
    simp [pvS, zge]
  unfold Oper.wp
  erw [hrun]
  exact ⟨fun e => (by cases e), _, β, hs, rfl⟩
@[reducible] def zfO : HCtr := hP [.bool, i64] .unit (fun _ _ => []) fun x xs => toX (fun _ => ((), x)) (zaB (stOf x) xs.1 xs.2.1)
def hFail : List (FuncId × HCtr) := [(137, zrp)]
theorem zpf : HsOk Tryz.prog gmH hFail := .cons zq9 .nil
theorem zd8 : zaA Tryz.prog gmH 81 zfO := by
  refine zar (K := _) zaj Tryz.func81 rfl rfl za6 Tryz.call81 rfl (Nat.le_of_ble_eq_true rfl) zaN ?_
  rintro w0 ⟨G, O, K, fix, D, ρ, B⟩ ty hX hG hK hρ hD hinv ⟨(s : List UInt8), (t : TokT), (l : List Nd), (b : Int), ⟨⟩⟩ ⟨(c : Bool), (e : Int), ⟨⟩⟩ hp
  obtain rfl : G = gmH := hG
  obtain rfl : K = 1 := hK
  obtain rfl : ρ = none := hρ
  obtain rfl : D = [] := hD
  have hI := zaD (ty := ty) (ty' := ty) hX rfl hinv
  have hok : pOk (s, t, l, b, ()) := hp
  change AWP _ _ _ _ _ ⟨[(0, pSelf), (1, ⟨.bool, c⟩), (2, ⟨i64, e⟩)], pE ty s (t, b) l, 2⟩ (pQ _ zfO ty (toX (fun _ => ((), (s, t, l, b, ()))) (zaB (t, b) c e)))
  (repeat (first | refine zae ?_ | refine zac ?_ | refine zab ?_ | refine zad ?_)); refine zaa hX zaj rfl ?_ ?_
  · trivial
  cases c with
  | true =>
    refine zai rfl (fun hb => absurd (show false = true from hb) (by decide)) (fun _ => ?_)
    refine zac ?_
    exact ⟨.inl rfl, ⟨_, rfl, nd, 1, _, rfl, rfl, rfl⟩, zba (by decide) rfl rfl trivial rfl⟩
  | false =>
    refine zai rfl (fun _ => ?_) (fun hb => absurd (show true = false from hb) (by decide))
    (repeat (first | refine zae ?_ | refine zac ?_ | refine zab ?_ | refine zad ?_)); refine zah ?_
    exact AL.own 2 hX zaj zpf rfl trivial rfl rfl hok hI rfl
@[reducible] def cIs : HCtr := hP [.str] .bool (fun _ _ => []) fun x xs => .ok (gIs (stOf x) xs.1, x)
theorem zpb : zaA Tryz.prog gmH 134 cIs := by
  refine zar (K := _) zaj Tryz.func134 rfl rfl za6 Tryz.call134 rfl (Nat.le_of_ble_eq_true rfl) zaN ?_
  rintro w0 ⟨G, O, K, fix, D, ρ, B⟩ ty hX hG hK hρ hD hinv ⟨(s : List UInt8), (t : TokT), (l : List Nd), (b : Int), ⟨⟩⟩ ⟨(u : List UInt8), ⟨⟩⟩ hp
  obtain rfl : G = gmH := hG
  obtain rfl : K = 1 := hK
  obtain rfl : ρ = none := hρ
  obtain rfl : D = [] := hD
  have hI := zaD (ty := ty) (ty' := ty) hX rfl hinv
  change AWP _ _ _ _ _ ⟨[(0, pSelf), (1, ⟨.str, u⟩)], pE ty s (t, b) l, 2⟩ (pQ _ cIs ty (.ok (gIs (t, b) u, (s, t, l, b, ()))))
  (repeat (first | refine zae ?_ | refine zac ?_ | refine zab ?_ | refine zad ?_)); refine zaa hX zaj rfl ?_ ?_
  · trivial
  (repeat (first | refine zae ?_ | refine zac ?_ | refine zab ?_ | refine zad ?_)); refine zaa hX zaj rfl ?_ ?_
  · repeat' (first | exact trivial | assumption | (refine ⟨?_, ?_⟩) | (intro _) | exact Nat.le_of_ble_eq_true rfl | exact Int.natCast_nonneg _ | (simp_all [allP]; done))
  refine AWP.ret ⟨.inr rfl, ⟨_, rfl, nd, 1, _, rfl, rfl, rfl⟩, zay rfl trivial rfl rfl ?_⟩
  show (bif (bif (t.1 == 1) then true else (t.1 == 4)) then eqb .str t.2.2.2.1 u else false) = gIs (t, b) u
  rw [zca, zgU, zdk]
  rfl
@[reducible] def cAdv : HCtr := hP [] tk (fun x _ => []) fun x _ => .ok (x.2.1, psX x.1 (gAdv x.1 (stOf x)) x.2.2.1)
def kAd : Kn := { gmK with C := [(79, cScan)] }
theorem zcA : KnOk Tryz.prog gmH kAd := zaj.with (.cons zqq .nil)
theorem zfx : zaA Tryz.prog gmH 87 cAdv := by
  refine zar (K := _) zcA Tryz.func87 rfl rfl za6 Tryz.call87 rfl (Nat.le_of_ble_eq_true rfl) zaN ?_
  rintro w0 ⟨G, O, K, fix, D, ρ, B⟩ ty hX hG hK hρ hD hinv ⟨(s : List UInt8), (t : TokT), (l : List Nd), (b : Int), ⟨⟩⟩ ⟨⟩ hp
  obtain rfl : G = gmH := hG
  obtain rfl : K = 1 := hK
  obtain rfl : ρ = none := hρ
  obtain rfl : D = [] := hD
  have hI := zaD (ty := ty) (ty' := ty) hX rfl hinv
  have hok : pOk (s, t, l, b, ()) := hp
  change AWP _ _ _ _ _ ⟨[(0, pSelf)], pE ty s (t, b) l, 2⟩ (pQ _ cAdv ty (.ok (t, psX s (gAdv s (t, b)) l)))
  (repeat (first | refine zae ?_ | refine zac ?_ | refine zab ?_ | refine zad ?_)); refine zaa hX zcA rfl ?_ ?_
  · trivial
  obtain ⟨⟨⟨⟨a1, a2, a3⟩, -⟩, -⟩, hlen⟩ := hok
  have a1 : (0 : Int) ≤ t.2.1 := a1
  have a2 : (0 : Int) ≤ t.2.2.1 := a2
  have a3 : t.2.1 + t.2.2.1 ≤ ((s.length : Nat) : Int) := a3
  have hlen : s.length ≤ 100000 := hlen
  have q0 : inR .i64 (t.2.1 + t.2.2.1) := zat (by omega) (by omega)
  have q1 : (0 : Int) ≤ t.2.1 + t.2.2.1 := by omega
  (repeat (first | refine zae ?_ | refine zac ?_ | refine zab ?_ | refine zad ?_)); refine zaa hX zcA rfl ?_ ?_
  · trivial
  (repeat (first | refine zae ?_ | refine zac ?_ | refine zab ?_ | refine zad ?_)); refine zaa hX zcA rfl ?_ ?_
  · exact q0
  have hdr : List.length (List.drop (t.2.1 + t.2.2.1).toNat s) ≤ 100000 := by rw [List.length_drop]; omega
  (repeat (first | refine zae ?_ | refine zac ?_ | refine zab ?_ | refine zad ?_)); refine zaa hX zcA rfl ?_ ?_
  · exact ⟨q1, a3, hdr⟩
  obtain ⟨⟨⟨b1, b2, b3⟩, -⟩, b4⟩ := zhS (s := s) q1 a3
  have hsc := (zkz (s.drop (t.2.1 + t.2.2.1).toNat)).1
  have hsl : Tok.at (zaW (s.drop (t.2.1 + t.2.2.1).toNat)) ≤ 100000 := by
    have := hsc.2.2
    have := hsc.2.1
    rw [List.length_drop] at *
    omega
  have hsl0 := hsc.1
  have q2 : inR .i64 (Tok.at (zaW (s.drop (t.2.1 + t.2.2.1).toNat)) + (t.2.1 + t.2.2.1)) := zat (by omega) (by omega)
  (repeat (first | refine zae ?_ | refine zac ?_ | refine zab ?_ | refine zad ?_)); refine zaa hX zcA rfl ?_ ?_
  · exact q2
  (repeat (first | refine zae ?_ | refine zac ?_ | refine zak ?_ | refine zad ?_ | refine zab ?_ | refine zaa hX zcA rfl trivial ?_ | refine zaa hX zcA rfl id ?_ | refine zaa hX zcA rfl ⟨id, id⟩ ?_))
  exact AWP.ret ⟨.inr rfl, ⟨_, rfl, nd, 1, _, rfl, rfl, rfl⟩, zay rfl trivial rfl rfl rfl⟩
def hEx : List (FuncId × HCtr) := [(134, cIs), (81, zfO), (87, cAdv)]
theorem zc8 : HsOk Tryz.prog gmH hEx := .cons zpb <| .cons zd8 <| .cons zfx .nil
@[reducible] def zfv : HCtr := hP [.str] .unit (fun _ _ => []) fun x xs => toX (fun st => ((), psX x.1 st x.2.2.1)) (zaQ x.1 (stOf x) xs.1)
theorem ze0 : zaA Tryz.prog gmH 88 zfv := by
  refine zar (K := _) zaj Tryz.func88 rfl rfl za6 Tryz.call88 rfl (Nat.le_of_ble_eq_true rfl) zaN ?_
  rintro w0 ⟨G, O, K, fix, D, ρ, B⟩ ty hX hG hK hρ hD hinv ⟨(s : List UInt8), (t : TokT), (l : List Nd), (b : Int), ⟨⟩⟩ ⟨(u : List UInt8), ⟨⟩⟩ hp
  obtain rfl : G = gmH := hG
  obtain rfl : K = 1 := hK
  obtain rfl : ρ = none := hρ
  obtain rfl : D = [] := hD
  have hI := zaD (ty := ty) (ty' := ty) hX rfl hinv
  have hok : pOk (s, t, l, b, ()) := hp
  change AWP _ _ _ _ _ ⟨[(0, pSelf), (1, ⟨.str, u⟩)], pE ty s (t, b) l, 2⟩ (pQ _ zfv ty (toX (fun st => ((), psX s st l)) (zaQ s (t, b) u)))
  (repeat (first | refine zae ?_ | refine zac ?_ | refine zab ?_ | refine zad ?_)); refine zah ?_
  refine AL.own 3 hX zaj zc8 rfl trivial rfl rfl hok hI ?_
  refine zax 0 hX zaj zc8 rfl trivial rfl rfl hok hI (e := zaB (t, b) (gIs (t, b) u) 3) rfl (fun er h => ?_) (fun a h => ?_)
  · unfold zaQ
    rw [zal h]
    exact zfI
  unfold zaQ
  rw [zao h]
  refine AL.nil ?_
  (repeat (first | refine zae ?_ | refine zac ?_ | refine zab ?_ | refine zad ?_)); refine zah ?_
  refine AL.own 1 hX zaj zc8 rfl trivial rfl rfl hok hI ?_
  refine AL.nil ?_
  exact ⟨.inl rfl, ⟨_, rfl, nd, 1, _, rfl, rfl, rfl⟩, zba (by decide) rfl rfl trivial rfl⟩
@[reducible] def zjy : HCtr := hP [] .unit (fun _ _ => []) fun x _ => toX (fun st => ((), psX x.1 st x.2.2.1)) (zbH x.1 (stOf x))
theorem zim : zaA Tryz.prog gmH 135 zjy := by
  refine zar (K := _) zaj Tryz.func135 rfl rfl za6 Tryz.call135 rfl (Nat.le_of_ble_eq_true rfl) zaN ?_
  rintro w0 ⟨G, O, K, fix, D, ρ, B⟩ ty hX hG hK hρ hD hinv ⟨(s : List UInt8), (t : TokT), (l : List Nd), (b : Int), ⟨⟩⟩ ⟨⟩ hp
  obtain rfl : G = gmH := hG
  obtain rfl : K = 1 := hK
  obtain rfl : ρ = none := hρ
  obtain rfl : D = [] := hD
  have hI := zaD (ty := ty) (ty' := ty) hX rfl hinv
  have hok : pOk (s, t, l, b, ()) := hp
  change AWP _ _ _ _ _ ⟨[(0, pSelf)], pE ty s (t, b) l, 2⟩ (pQ _ zjy ty (toX (fun st => ((), psX s st l)) (zbH s (t, b))))
  (repeat (first | refine zae ?_ | refine zac ?_ | refine zab ?_ | refine zad ?_)); refine zah ?_
  refine zax 6 hX zaj zc8 rfl trivial rfl rfl hok hI (e := zaB (t, b) (decide (b < 64)) 2) rfl (fun er h => ?_) (fun a h => ?_)
  · unfold zbH
    rw [zal h]
    exact zfI
  unfold zbH
  rw [zao h]
  have hb := of_decide_eq_true (zbl h)
  obtain ⟨⟨g1, g2, g3⟩, hlen⟩ := id hok
  have g2 : (0 : Int) ≤ b := g2
  have q0 : inR .i64 (b + 1) := zat (by omega) (by omega)
  have hok2 : pOk (s, t, l, b + 1, ()) := ⟨⟨g1, (by omega : (0 : Int) ≤ b + 1), (by omega : b + 1 ≤ 64)⟩, hlen⟩
  refine AL.nil ?_
  (repeat (first | refine zae ?_ | refine zac ?_ | refine zab ?_ | refine zad ?_)); refine zaa hX zaj rfl ?_ ?_
  · exact q0
  (repeat (first | refine zae ?_ | refine zac ?_ | refine zab ?_ | refine zad ?_)); refine zah ?_
  refine AL.own 1 hX zaj zc8 rfl trivial rfl rfl hok2 hI ?_
  refine AL.nil ?_
  exact ⟨.inl rfl, ⟨_, rfl, nd, 1, _, rfl, rfl, rfl⟩, zba (by decide) rfl rfl trivial rfl⟩
@[reducible] def zfu : HCtr := hP [i64, i64] i64 (fun _ _ => []) fun x xs => toX (fun r => (r.1, psX x.1 r.2 x.2.2.1)) (zaI x.1 (stOf x) xs.1 xs.2.1)
theorem zeN : zaA Tryz.prog gmH 202 zfu := by
  refine zar (K := _) zaj Tryz.func202 rfl rfl za6 Tryz.call202 rfl (Nat.le_of_ble_eq_true rfl) zaN ?_
  rintro w0 ⟨G, O, K, fix, D, ρ, B⟩ ty hX hG hK hρ hD hinv ⟨(s : List UInt8), (t : TokT), (l : List Nd), (b : Int), ⟨⟩⟩ ⟨(lo : Int), (hi : Int), ⟨⟩⟩ hp
  obtain rfl : G = gmH := hG
  obtain rfl : K = 1 := hK
  obtain rfl : ρ = none := hρ
  obtain rfl : D = [] := hD
  have hI := zaD (ty := ty) (ty' := ty) hX rfl hinv
  have hok : pOk (s, t, l, b, ()) := hp
  change AWP _ _ _ _ _ ⟨[(0, pSelf), (1, ⟨i64, lo⟩), (2, ⟨i64, hi⟩)], pE ty s (t, b) l, 2⟩ (pQ _ zfu ty (toX (fun r => (r.1, psX s r.2 l)) (zaI s (t, b) lo hi)))
  unfold zaI
  (repeat (first | refine zae ?_ | refine zac ?_ | refine zab ?_ | refine zad ?_)); refine zaa hX zaj rfl ?_ ?_
  · trivial
  (repeat (first | refine zae ?_ | refine zac ?_ | refine zab ?_ | refine zad ?_)); refine zah ?_
  refine zax 7 hX zaj zc8 rfl trivial rfl rfl hok hI (e := zaB (t, b) (Tok.cls t == 3) 3) rfl (fun er h => ?_) (fun a h => ?_)
  · rw [zal h]
    exact zfI
  rw [zao h]
  refine AL.nil ?_
  (repeat (first | refine zae ?_ | refine zac ?_ | refine zab ?_ | refine zad ?_)); refine zah ?_
  refine AL.fit (σ' := ⟨[(0, pSelf), (1, ⟨i64, lo⟩), (2, ⟨i64, hi⟩)], pE ty s (t, b) l, 2⟩) ⟨⟨rfl, rfl, rfl, trivial⟩, ⟨rfl, rfl, trivial⟩, rfl, rfl⟩ ?_
  refine zax 17 hX zaj zc8 rfl ?_ rfl rfl hok hI (e := zaB (t, b) (bif decide (lo ≤ Tok.n t) then decide (Tok.n t ≤ hi) else false) 1) rfl (fun er h => ?_) (fun a h => ?_)
  · repeat' (first | exact trivial | assumption | (refine ⟨?_, ?_⟩) | (intro _) | exact Nat.le_of_ble_eq_true rfl | exact Int.natCast_nonneg _ | (simp_all [allP]; done))
  · rw [zca] at h
    rw [zal h]
    exact zfI
  rw [zca] at h
  rw [zao h]
  refine AL.nil ?_
  refine zan (σ' := ⟨[(0, pSelf), (1, ⟨i64, lo⟩), (2, ⟨i64, hi⟩)], pE ty s (t, b) l, 2⟩) ⟨⟨rfl, rfl, rfl, trivial⟩, ⟨rfl, rfl, trivial⟩, rfl, rfl⟩ ?_
  (repeat (first | refine zae ?_ | refine zac ?_ | refine zab ?_ | refine zad ?_)); refine zah ?_
  refine AL.own 1 hX zaj zc8 rfl trivial rfl rfl hok hI ?_
  refine AL.all hX zaj rfl trivial ?_
  exact AWP.ret ⟨.inr rfl, ⟨_, rfl, nd, 1, _, rfl, rfl, rfl⟩, zay rfl trivial rfl rfl rfl⟩
@[reducible] def zgS : HCtr := hP [] i64 (fun _ _ => []) fun x _ => toX (fun r => (r.1, psX x.1 r.2 x.2.2.1)) (gCal x.1 (stOf x))
def hCal : List (FuncId × HCtr) := [(202, zfu)]
theorem zqU : HsOk Tryz.prog gmH hCal := .cons zeN .nil
theorem zki : zaA Tryz.prog gmH 209 zgS := by
  refine zar (K := _) zaj Tryz.func209 rfl rfl za6 Tryz.call209 rfl (Nat.le_of_ble_eq_true rfl) zaN ?_
  rintro w0 ⟨G, O, K, fix, D, ρ, B⟩ ty hX hG hK hρ hD hinv ⟨(s : List UInt8), (t : TokT), (l : List Nd), (b : Int), ⟨⟩⟩ ⟨⟩ hp
  obtain rfl : G = gmH := hG
  obtain rfl : K = 1 := hK
  obtain rfl : ρ = none := hρ
  obtain rfl : D = [] := hD
  have hI := zaD (ty := ty) (ty' := ty) hX rfl hinv
  have hok : pOk (s, t, l, b, ()) := hp
  change AWP _ _ _ _ _ ⟨[(0, pSelf)], pE ty s (t, b) l, 2⟩ (pQ _ zgS ty (toX (fun r => (r.1, psX s r.2 l)) (zaI s (t, b) 0 2)))
  (repeat (first | refine zae ?_ | refine zac ?_ | refine zab ?_ | refine zad ?_)); refine zaa hX zaj rfl ?_ ?_
  · trivial
  (repeat (first | refine zae ?_ | refine zac ?_ | refine zab ?_ | refine zad ?_)); refine zah ?_
  refine zax 1 hX zaj zqU rfl trivial rfl rfl hok hI (e := zaI s (t, b) 0 2) rfl (fun er h => ?_) (fun a h => ?_)
  · rw [h]
    exact zfI
  rw [h]
  refine AL.all hX zaj rfl trivial ?_
  exact AWP.ret ⟨.inr rfl, ⟨_, rfl, nd, 1, _, rfl, rfl, rfl⟩, zay rfl trivial rfl rfl rfl⟩
@[reducible] def zn1 : HCtr := hP [] i64 (fun _ _ => []) fun x _ => toX (fun r => (r.1, psX x.1 r.2 x.2.2.1)) (zdi x.1 (stOf x))
theorem zoz : zaA Tryz.prog gmH 210 zn1 := by
  refine zar (K := _) zaj Tryz.func210 rfl rfl za6 Tryz.call210 rfl (Nat.le_of_ble_eq_true rfl) zaN ?_
  rintro w0 ⟨G, O, K, fix, D, ρ, B⟩ ty hX hG hK hρ hD hinv ⟨(s : List UInt8), (t : TokT), (l : List Nd), (b : Int), ⟨⟩⟩ ⟨⟩ hp
  obtain rfl : G = gmH := hG
  obtain rfl : K = 1 := hK
  obtain rfl : ρ = none := hρ
  obtain rfl : D = [] := hD
  have hI := zaD (ty := ty) (ty' := ty) hX rfl hinv
  have hok : pOk (s, t, l, b, ()) := hp
  change AWP _ _ _ _ _ ⟨[(0, pSelf)], pE ty s (t, b) l, 2⟩ (pQ _ zn1 ty (toX (fun r => (r.1, psX s r.2 l)) (zdi s (t, b))))
  unfold zdi
  (repeat (first | refine zae ?_ | refine zac ?_ | refine zab ?_ | refine zad ?_)); refine zaa hX zaj rfl ?_ ?_
  · trivial
  (repeat (first | refine zae ?_ | refine zac ?_ | refine zab ?_ | refine zad ?_)); refine zah ?_
  refine AL.own 2 hX zaj zc8 rfl trivial rfl rfl hok hI ?_
  cases hm : gIs (t, b) ziy with
  | true =>
    rw [Bool.true_or]
    refine AL.fit (σ' := ⟨[(0, pSelf), (3, pSelf), (5, ⟨.bool, true⟩)], pE ty s (t, b) l, 2⟩) ⟨⟨rfl, rfl, zcS hm, trivial⟩, ⟨rfl, rfl, trivial⟩, rfl, rfl⟩ ?_
    refine AL.take 1 hX zaj rfl trivial ?_
    refine AL.guardF 3 6 false .bool false rfl rfl rfl rfl rfl rfl ?_
    refine AL.guardF 3 6 false .bool false rfl rfl rfl rfl rfl rfl ?_
    refine AL.own 1 hX zaj zc8 rfl id rfl rfl hok hI ?_
    refine AL.nil ?_
    refine zan (σ' := ⟨[(0, pSelf)], pE ty s (t, b) l, 2⟩) ⟨⟨rfl, trivial⟩, ⟨rfl, rfl, trivial⟩, rfl, rfl⟩ ?_
    (repeat (first | refine zae ?_ | refine zac ?_ | refine zab ?_ | refine zad ?_)); refine zah ?_
    refine AL.own 1 hX zaj zc8 rfl trivial rfl rfl hok hI ?_
    refine AL.all hX zaj rfl trivial ?_
    refine zai rfl (fun hb => ?_) (fun hb => ?_)
    · have hb : eqb .str t.2.2.2.1 zdz = true := hb
      have hb : Tok.text t = zdz := zbc.1 hb
      (repeat (first | refine zae ?_ | refine zac ?_ | refine zak ?_ | refine zad ?_ | refine zab ?_ | refine zaa hX zaj rfl trivial ?_ | refine zaa hX zaj rfl id ?_ | refine zaa hX zaj rfl ⟨id, id⟩ ?_))
      refine AWP.ret ⟨.inr rfl, ⟨_, rfl, nd, 1, _, rfl, rfl, rfl⟩, zay rfl trivial rfl rfl ?_⟩
      show (1 : Int) = if Tok.text t = zdz then 1 else 0
      rw [if_pos hb]
    · have hb : eqb .str t.2.2.2.1 zdz = false := hb
      have hb : ¬ Tok.text t = zdz := fun h => by rw [zbc.2 h] at hb; cases hb
      (repeat (first | refine zae ?_ | refine zac ?_ | refine zak ?_ | refine zad ?_ | refine zab ?_ | refine zaa hX zaj rfl trivial ?_ | refine zaa hX zaj rfl id ?_ | refine zaa hX zaj rfl ⟨id, id⟩ ?_))
      refine AWP.ret ⟨.inr rfl, ⟨_, rfl, nd, 1, _, rfl, rfl, rfl⟩, zay rfl trivial rfl rfl ?_⟩
      show (0 : Int) = if Tok.text t = zdz then 1 else 0
      rw [if_neg hb]
  | false =>
    rw [Bool.false_or]
    refine AL.fit (σ' := ⟨[(0, pSelf), (3, pSelf), (5, ⟨.bool, false⟩)], pE ty s (t, b) l, 2⟩) ⟨⟨rfl, rfl, zcS hm, trivial⟩, ⟨rfl, rfl, trivial⟩, rfl, rfl⟩ ?_
    refine AL.take 1 hX zaj rfl trivial ?_
    refine AL.guardT 3 6 false rfl rfl rfl rfl ?_
    refine AL.take 1 hX zaj rfl trivial ?_
    refine AL.guardT 3 6 false rfl rfl rfl rfl ?_
    refine AL.own 0 hX zaj zc8 rfl trivial rfl rfl hok hI ?_
    refine zax 1 hX zaj zc8 rfl trivial rfl rfl hok hI (e := zaB (t, b) (gIs (t, b) zdz) 3) rfl (fun er h => ?_) (fun a h => ?_)
    · rw [zal h]
      exact zfI
    rw [zao h]
    refine AL.nil ?_
    refine zan (σ' := ⟨[(0, pSelf)], pE ty s (t, b) l, 2⟩) ⟨⟨rfl, trivial⟩, ⟨rfl, rfl, trivial⟩, rfl, rfl⟩ ?_
    (repeat (first | refine zae ?_ | refine zac ?_ | refine zab ?_ | refine zad ?_)); refine zah ?_
    refine AL.own 1 hX zaj zc8 rfl trivial rfl rfl hok hI ?_
    refine AL.all hX zaj rfl trivial ?_
    refine zai rfl (fun hb => ?_) (fun hb => ?_)
    · have hb : eqb .str t.2.2.2.1 zdz = true := hb
      have hb : Tok.text t = zdz := zbc.1 hb
      (repeat (first | refine zae ?_ | refine zac ?_ | refine zak ?_ | refine zad ?_ | refine zab ?_ | refine zaa hX zaj rfl trivial ?_ | refine zaa hX zaj rfl id ?_ | refine zaa hX zaj rfl ⟨id, id⟩ ?_))
      refine AWP.ret ⟨.inr rfl, ⟨_, rfl, nd, 1, _, rfl, rfl, rfl⟩, zay rfl trivial rfl rfl ?_⟩
      show (1 : Int) = if Tok.text t = zdz then 1 else 0
      rw [if_pos hb]
    · have hb : eqb .str t.2.2.2.1 zdz = false := hb
      have hb : ¬ Tok.text t = zdz := fun h => by rw [zbc.2 h] at hb; cases hb
      (repeat (first | refine zae ?_ | refine zac ?_ | refine zak ?_ | refine zad ?_ | refine zab ?_ | refine zaa hX zaj rfl trivial ?_ | refine zaa hX zaj rfl id ?_ | refine zaa hX zaj rfl ⟨id, id⟩ ?_))
      refine AWP.ret ⟨.inr rfl, ⟨_, rfl, nd, 1, _, rfl, rfl, rfl⟩, zay rfl trivial rfl rfl ?_⟩
      show (0 : Int) = if Tok.text t = zdz then 1 else 0
      rw [if_neg hb]
@[reducible] def cAdd : HCtr := hP [nd] i64 (fun x _ => [List.length x.2.2.1 ≤ 100000]) fun x xs => .ok (((x.2.2.1.length : Nat) : Int), psX x.1 (stOf x) (x.2.2.1 ++ [xs.1]))
theorem zoe : zaA Tryz.prog gmH 136 cAdd := by
  refine zar (K := _) zaj Tryz.func136 rfl rfl za6 Tryz.call136 rfl (Nat.le_of_ble_eq_true rfl) zaN ?_
  rintro w0 ⟨G, O, K, fix, D, ρ, B⟩ ty hX hG hK hρ hD hinv ⟨(s : List UInt8), (t : TokT), (l : List Nd), (b : Int), ⟨⟩⟩ ⟨(m : Nd), ⟨⟩⟩ hp
  obtain rfl : G = gmH := hG
  obtain rfl : K = 1 := hK
  obtain rfl : ρ = none := hρ
  obtain rfl : D = [] := hD
  have hI := zaD (ty := ty) (ty' := ty) hX rfl hinv
  obtain ⟨hok, hl⟩ : pOk (s, t, l, b, ()) ∧ l.length ≤ 100000 := hp
  change AWP _ _ _ _ _ ⟨[(0, pSelf), (1, ⟨nd, m⟩)], pE ty s (t, b) l, 2⟩ (pQ _ cAdd ty (.ok (((l.length : Nat) : Int), psX s (t, b) (l ++ [m]))))
  (repeat (first | refine zae ?_ | refine zac ?_ | refine zab ?_ | refine zad ?_)); refine zaa hX zaj rfl ?_ ?_
  · trivial
  have hcap : l.length + 1 ≤ 1000000000 := by omega
  refine zae ?_
  refine AWP.drawF (d := 5) (src := .tmp 0) rfl (.cons (.of_eq (OpEq.refl _) rfl (by intro h; cases h) (by intro t h; cases h; intro h; cases h) (.inr (by intro ev ev' h; simp [execOp, resolve, h]))) <| .cons (.of_eq (OpEq.refl _) rfl (by intro h; cases h) (by intro t h; cases h; intro h; cases h) (.inr (by intro ev ev' h; simp [execOp, resolve, h]))) <| .cons (.of_eq (OpEq.refl _) rfl (by intro h; cases h) (by intro t h; cases h; intro h; cases h) (.inr (by intro ev ev' h; simp [execOp, resolve, h]))) <| .cons (.of_eq (OpEq.refl _) rfl (by intro h; cases h) (by intro t h; cases h; intro h; cases h) (.inr (by intro ev ev' h; simp [execOp, resolve, h]))) <| .cons (.of_eq (OpEq.refl _) rfl (by intro h; cases h) (by intro t h; cases h; intro h; cases h) (.inr (by intro ev ev' h; simp [execOp, resolve, h]))) <| .cons (.of_eq (OpEq.refl _) rfl (by intro h; cases h) (by intro t h; cases h; intro h; cases h) (.inr (by intro ev ev' h; simp [execOp, resolve, h]))) <| .cons (.edge 0 rfl (by intro h; cases h) (by intro t h; cases h; intro h; cases h) (.inr (by intro ev ev' h; simp [execOp, resolve, h]))) <| .cons (.of_eq (OpEq.refl _) rfl (by intro h; cases h) (by intro t h; cases h; intro h; cases h) (.inl ⟨_, Array.mem_of_getElem? (i := 0) rfl, by decide, rfl⟩)) <| .cons (.of_eq (OpEq.refl _) rfl (by intro h; cases h) (by intro t h; cases h; intro h; cases h) (.inr (by intro ev ev' h; simp [execOp, resolve, h]))) <| .cons (.of_eq (OpEq.refl _) rfl (by intro h; cases h) (by intro t h; cases h; intro h; cases h) (.inr (by intro ev ev' h; simp [execOp, resolve, h]))) <| .nil) rfl rfl rfl rfl (by intro h; cases h) dM hX zaj 7 (by kernel_rfl) rfl rfl ?_ ?_ ?_
  · trivial
  · exact hcap
  have q0 : inR .i64 ((((l ++ [m]).length : Nat) : Int) - 1) := by rw [show (l ++ [m]).length = l.length + 1 by simp]; exact zat (by omega) (by omega)
  (repeat (first | refine zae ?_ | refine zac ?_ | refine zab ?_ | refine zad ?_)); refine zaa hX zaj rfl ?_ ?_
  · exact q0
  refine AWP.ret ⟨.inr rfl, ⟨_, rfl, nd, 1, _, rfl, rfl, rfl⟩, zay rfl trivial rfl rfl ?_⟩
  show (((l ++ [m]).length : Nat) : Int) - 1 = ((l.length : Nat) : Int)
  rw [List.length_append]
  simp
@[reducible] def zro : HCtr := hP [i64, i64, .bool] ints (fun _ xs => [-1000 ≤ xs.1, xs.1 ≤ 1000]) fun x xs => toX (fun r => (r.1, psX x.1 r.2 x.2.2.1)) (zcX x.1 (stOf x) xs.1 xs.2.1 xs.2.2.1)
def hLi : List (FuncId × HCtr) := [(134, cIs), (81, zfO), (88, zfv), (202, zfu)]
theorem zfM : HsOk Tryz.prog gmH hLi := .cons zpb <| .cons zd8 <| .cons ze0 <| .cons zeN .nil
@[reducible] def lS (ty : TypeId) (s : List UInt8) (l : List Nd) (lo hi : Int) (z : Bool) (st : GSt) (acc : List Int) : AS :=
  ⟨[(0, pSelf), (1, ⟨i64, lo⟩), (2, ⟨i64, hi⟩), (3, ⟨.bool, z⟩), (9, ⟨.obuf i64, (2 : Nat)⟩), (10, ⟨i64, acc.getLast?.getD (lo - 1)⟩)], [(0, some (pBox ty s st)), (1, some (.buf 73 nd l)), (2, some (.buf 3 i64 acc))], 3⟩
theorem lt64 (n : Nat) : decide (((n : Nat) : Int) < 64) = decide (n < 64) := by
  rw [Bool.eq_iff_iff, decide_eq_true_iff, decide_eq_true_iff]
  omega
theorem zqX {s : List UInt8} {lo hi : Int} {z : Bool} {j : Nat} {st : GSt} {acc : List Int} (h : (!acc.isEmpty && gIs st zcI) = false) : zcc s lo hi z (j + 1) st acc = (zaB st (Tok.cls st.1 == 3) 3 >>= fun _ => zaB st (decide (acc.length < 64)) 2 >>= fun _ => zaB st (decide (Tok.n st.1 > acc.getLast?.getD (lo - 1)) && (z || (Tok.n st.1 != 0))) 1 >>= fun _ => zaI s st lo hi >>= fun p => zcc s lo hi z j p.2 (acc ++ [p.1])) := by
  rw [zcc, if_neg (by rw [h]; decide)]
theorem zqD : zaA Tryz.prog gmH 206 zro := by
  refine zar (K := _) zaj Tryz.func206 rfl rfl za6 Tryz.call206 rfl (Nat.le_of_ble_eq_true rfl) zaN ?_
  rintro w0 ⟨G, O, K, fix, D, ρ, B⟩ ty hX hG hK hρ hD hinv ⟨(s : List UInt8), (t : TokT), (l : List Nd), (b : Int), ⟨⟩⟩ ⟨(lo : Int), (hi : Int), (z : Bool), ⟨⟩⟩ hp
  obtain rfl : G = gmH := hG
  obtain rfl : K = 1 := hK
  obtain rfl : ρ = none := hρ
  obtain rfl : D = [] := hD
  have hI := zaD (ty := ty) (ty' := ty) hX rfl hinv
  obtain ⟨hok, hlo1, hlo2⟩ : pOk (s, t, l, b, ()) ∧ -1000 ≤ lo ∧ lo ≤ 1000 := hp
  change AWP _ _ _ _ _ ⟨[(0, pSelf), (1, ⟨i64, lo⟩), (2, ⟨i64, hi⟩), (3, ⟨.bool, z⟩)], pE ty s (t, b) l, 2⟩ (pQ _ zro ty (toX (fun r => (r.1, psX s r.2 l)) (zcX s (t, b) lo hi z)))
  unfold zcX
  (repeat (first | refine zae ?_ | refine zac ?_ | refine zak ?_ | refine zad ?_ | refine zab ?_ | refine zaa hX zaj rfl trivial ?_ | refine zaa hX zaj rfl id ?_ | refine zaa hX zaj rfl ⟨id, id⟩ ?_))
  (repeat (first | refine zae ?_ | refine zac ?_ | refine zab ?_ | refine zad ?_)); refine zah ?_
  refine zax 1 hX zaj zfM rfl trivial rfl rfl hok hI (e := zaQ s (t, b) zez) rfl (fun er h => ?_) (fun st1 h => ?_)
  · rw [zal h]
    exact zfI
  rw [zao h]
  have hok1 : GOk s st1 := (za9 hok.1 h).1
  have hsl : s.length ≤ 100000 := hok.2
  refine AL.nil ?_
  (repeat (first | refine zae ?_ | refine zac ?_ | refine zab ?_ | refine zad ?_)); refine zaa hX zaj rfl ?_ ?_
  · exact zat (by omega) (by omega)
  refine AWP.nilBuf hX 9 3 i64 rfl rfl rfl ?_
  refine zab ?_
  refine AWP.loop (ι := Nat × GSt × List Int) (fun i => lS ty s l lo hi z i.2.1 i.2.2) (fun i => zcc s lo hi z 66 st1 [] = zcc s lo hi z i.1 i.2.1 i.2.2 ∧ i.2.2.length + i.1 = 66 ∧ GOk s i.2.1 ∧ i.2.2.length ≤ 64) (fun i => i.1) (66, st1, []) ⟨rfl, rfl, hok1, Nat.zero_le _⟩ ⟨⟨rfl, rfl, rfl, rfl, rfl, rfl, trivial⟩, ⟨rfl, rfl, rfl, trivial⟩, rfl, rfl⟩ ?_
  rintro ⟨k, st, acc⟩ ⟨heq, hk, hst, hacc⟩
  have hst2 : pOk (s, st.1, l, st.2, ()) := ⟨hst, hsl⟩
  have heq : zcc s lo hi z 66 st1 [] = zcc s lo hi z k st acc := heq
  have hk : acc.length + k = 66 := hk
  have hacc : acc.length ≤ 64 := hacc
  obtain ⟨j, rfl⟩ : ∃ j, k = j + 1 := ⟨k - 1, by omega⟩
  rw [heq]
  obtain ⟨R, hR⟩ : ∃ R, R = zcc s lo hi z (j + 1) st acc := ⟨_, rfl⟩
  rw [<- hR]
  have hR0 := hR
  refine zae ?_
  by_cases htest : (!acc.isEmpty && gIs st zcI) = true
  · obtain ⟨hne, hcl⟩ := (Bool.and_eq_true _ _).mp htest
    have hR2 : R = .ok (acc, st) := hR.trans (if_pos htest)
    have hlen : (((acc.length : Nat) : Int) == 0) = false := by
      cases acc with
      | nil => cases hne
      | cons a r => rw [List.length_cons]; exact beq_false_of_ne (by omega)
    refine zae ?_
    refine zah ?_
    refine AL.take 4 hX zaj rfl trivial ?_
    refine AL.fit (σ' := ⟨[(0, pSelf), (9, ⟨.obuf i64, (2 : Nat)⟩), (18, ⟨.bool, false⟩)], [(0, some (pBox ty s st)), (1, some (.buf 73 nd l)), (2, some (.buf 3 i64 acc))], 3⟩) ⟨⟨rfl, rfl, zcS hlen, trivial⟩, ⟨rfl, rfl, rfl, trivial⟩, rfl, rfl⟩ ?_
    refine AL.guardT 3 18 false rfl rfl rfl rfl ?_
    refine AL.take 1 hX zaj rfl trivial ?_
    refine AL.guardT 3 18 false rfl rfl rfl rfl ?_
    refine AL.own 0 hX zaj zfM rfl trivial rfl rfl hst2 hI ?_
    refine AL.guardT 3 18 false rfl rfl rfl rfl ?_
    refine AL.all hX zaj rfl trivial ?_
    refine zai rfl (fun hb => ?_) (fun _ => ?_)
    · have hb : (!gIs st zcI) = true := hb
      rw [hcl] at hb
      cases hb
    refine zad ?_
    rw [zao hR2]
    refine zan (σ' := ⟨[(0, pSelf), (9, ⟨.obuf i64, (2 : Nat)⟩)], [(0, some (pBox ty s st)), (1, some (.buf 73 nd l)), (2, some (.buf 3 i64 acc))], 3⟩) ⟨⟨rfl, rfl, trivial⟩, ⟨rfl, rfl, rfl, trivial⟩, rfl, rfl⟩ ?_
    (repeat (first | refine zae ?_ | refine zac ?_ | refine zab ?_ | refine zad ?_)); refine zah ?_
    refine zax 1 hX zaj zfM rfl trivial rfl rfl hst2 hI (e := zaQ s st zcI) rfl (fun er h => ?_) (fun st2 h => ?_)
    · rw [zal h]
      exact zfI
    rw [zao h]
    refine AL.nil ?_
    refine AWP.frz hX 9 ?_
    (repeat (first | refine zae ?_ | refine zac ?_ | refine zak ?_ | refine zad ?_ | refine zab ?_ | refine zaa hX zaj rfl trivial ?_ | refine zaa hX zaj rfl id ?_ | refine zaa hX zaj rfl ⟨id, id⟩ ?_))
    exact AWP.ret ⟨.inr rfl, ⟨_, rfl, nd, 1, _, rfl, rfl, rfl⟩, zay rfl trivial rfl rfl rfl⟩
  have htest : (!acc.isEmpty && gIs st zcI) = false := by simpa using htest
  refine AWP.viaQ (σ' := lS ty s l lo hi z st acc) ?_ ?_
  · refine zae ?_
    refine zah ?_
    refine AL.take 4 hX zaj rfl trivial ?_
    cases acc with
    | nil =>
      refine AL.fit (σ' := ⟨[(0, pSelf), (1, ⟨i64, lo⟩), (2, ⟨i64, hi⟩), (3, ⟨.bool, z⟩), (9, ⟨.obuf i64, (2 : Nat)⟩), (10, ⟨i64, ([] : List Int).getLast?.getD (lo - 1)⟩), (18, ⟨.bool, true⟩)], [(0, some (pBox ty s st)), (1, some (.buf 73 nd l)), (2, some (.buf 3 i64 []))], 3⟩) ⟨⟨rfl, rfl, rfl, rfl, rfl, rfl, rfl, trivial⟩, ⟨rfl, rfl, rfl, trivial⟩, rfl, rfl⟩ ?_
      refine AL.guardF 3 18 false .bool false rfl rfl rfl rfl rfl rfl ?_
      refine AL.guardF 3 18 false .bool false rfl rfl rfl rfl rfl rfl ?_
      refine AL.guardF 3 18 false .bool false rfl rfl rfl rfl rfl rfl ?_
      refine AL.all hX zaj rfl id ?_
      refine zai rfl (fun _ => ?_) (fun hb => absurd (show true = false from hb) (by decide))
      refine zac ?_
      exact ⟨⟨rfl, rfl, rfl, rfl, rfl, rfl, trivial⟩, ⟨rfl, rfl, rfl, trivial⟩, rfl, rfl⟩
    | cons a r =>
      have hcl : gIs st zcI = false := htest
      have hlen : (((((a :: r : List Int)).length : Nat) : Int) == 0) = false := by
        rw [List.length_cons]; exact beq_false_of_ne (by omega)
      refine AL.fit (σ' := ⟨[(0, pSelf), (1, ⟨i64, lo⟩), (2, ⟨i64, hi⟩), (3, ⟨.bool, z⟩), (9, ⟨.obuf i64, (2 : Nat)⟩), (10, ⟨i64, (a :: r : List Int).getLast?.getD (lo - 1)⟩), (18, ⟨.bool, false⟩)], [(0, some (pBox ty s st)), (1, some (.buf 73 nd l)), (2, some (.buf 3 i64 (a :: r)))], 3⟩) ⟨⟨rfl, rfl, rfl, rfl, rfl, rfl, zcS hlen, trivial⟩, ⟨rfl, rfl, rfl, trivial⟩, rfl, rfl⟩ ?_
      refine AL.guardT 3 18 false rfl rfl rfl rfl ?_
      refine AL.take 1 hX zaj rfl trivial ?_
      refine AL.guardT 3 18 false rfl rfl rfl rfl ?_
      refine AL.own 0 hX zaj zfM rfl trivial rfl rfl hst2 hI ?_
      refine AL.guardT 3 18 false rfl rfl rfl rfl ?_
      refine AL.all hX zaj rfl trivial ?_
      refine zai rfl (fun _ => ?_) (fun hb => ?_)
      · refine zac ?_
        exact ⟨⟨rfl, rfl, rfl, rfl, rfl, rfl, trivial⟩, ⟨rfl, rfl, rfl, trivial⟩, rfl, rfl⟩
      · have hb : (!gIs st zcI) = false := hb
        rw [hcl] at hb
        cases hb
  have hR := hR.trans (zqX htest)
  refine zae ?_
  refine zab ?_
  (repeat (first | refine zae ?_ | refine zac ?_ | refine zab ?_ | refine zad ?_)); refine zah ?_
  refine zax 7 hX zaj zfM rfl trivial rfl rfl hst2 hI (e := zaB st (Tok.cls st.1 == 3) 3) rfl (fun er h => ?_) (fun u1 h1 => ?_)
  · rw [zal (hR.trans (by first | (rw [h]; done) | (rw [h]; rfl)))]
    exact rfl
  replace hR := hR.trans (show _ = _ by rw [h1])
  refine AL.nil ?_
  refine zan (σ' := lS ty s l lo hi z st acc) ⟨⟨rfl, rfl, rfl, rfl, rfl, rfl, trivial⟩, ⟨rfl, rfl, rfl, trivial⟩, rfl, rfl⟩ ?_
  (repeat (first | refine zae ?_ | refine zac ?_ | refine zab ?_ | refine zad ?_)); refine zah ?_
  refine zax 4 hX zaj zfM rfl trivial rfl rfl hst2 hI (e := zaB st (decide (((acc.length : Nat) : Int) < 64)) 2) rfl (fun er h => ?_) (fun u2 h2 => ?_)
  · rw [lt64] at h
    rw [zal (hR.trans (by first | (rw [h]; done) | (rw [h]; rfl)))]
    exact rfl
  rw [lt64] at h2
  have hacc64 := of_decide_eq_true (zbl h2)
  replace hR := hR.trans (show _ = _ by rw [h2])
  refine AL.nil ?_
  refine zan (σ' := lS ty s l lo hi z st acc) ⟨⟨rfl, rfl, rfl, rfl, rfl, rfl, trivial⟩, ⟨rfl, rfl, rfl, trivial⟩, rfl, rfl⟩ ?_
  (repeat (first | refine zae ?_ | refine zac ?_ | refine zab ?_ | refine zad ?_)); refine zah ?_
  refine zax 19 hX zaj zfM rfl ?_ rfl rfl hst2 hI (e := zaB st (bif decide (Tok.n st.1 > acc.getLast?.getD (lo - 1)) then (bif z then true else !(Tok.n st.1 == 0)) else false) 1) rfl (fun er h => ?_) (fun u3 h3 => ?_)
  · repeat' (first | exact trivial | assumption | (refine ⟨?_, ?_⟩) | (intro _) | exact Nat.le_of_ble_eq_true rfl | exact Int.natCast_nonneg _ | (simp_all [allP]; done))
  · rw [zca, zgU] at h
    rw [zal (hR.trans (by rw [show (Tok.n st.1 != 0) = !(Tok.n st.1 == 0) from rfl, h]; first | done | rfl))]
    exact rfl
  rw [zca, zgU] at h3
  replace hR := hR.trans (show _ = _ by rw [show (Tok.n st.1 != 0) = !(Tok.n st.1 == 0) from rfl, h3])
  refine AL.nil ?_
  refine zan (σ' := lS ty s l lo hi z st acc) ⟨⟨rfl, rfl, rfl, rfl, rfl, rfl, trivial⟩, ⟨rfl, rfl, rfl, trivial⟩, rfl, rfl⟩ ?_
  (repeat (first | refine zae ?_ | refine zac ?_ | refine zab ?_ | refine zad ?_)); refine zah ?_
  refine zax 4 hX zaj zfM rfl trivial rfl rfl hst2 hI (e := zaI s st lo hi) rfl (fun er h => ?_) (fun p h4 => ?_)
  · rw [zal (hR.trans (by first | (rw [h]; done) | (rw [h]; rfl)))]
    exact rfl
  obtain ⟨x, st2⟩ := p
  replace hR := hR.trans (show _ = zcc s lo hi z j st2 (acc ++ [x]) by rw [h4]; rfl)
  have hst3 := (zap hst h4).1.1
  have hcap : acc.length + 1 ≤ 1000000000 := by omega
  refine AL.all hX zaj rfl hcap ?_
  have hla : (acc ++ [x]).length = acc.length + 1 := by simp
  have q0 : inR .i64 ((((acc ++ [x]).length : Nat) : Int) - 1) := zat (by omega) (by omega)
  have q1 : (0 : Int) ≤ (((acc ++ [x]).length : Nat) : Int) - 1 := by omega
  have q2 : (((acc ++ [x]).length : Nat) : Int) - 1 < (((acc ++ [x]).length : Nat) : Int) := by omega
  have q3 : ((((acc ++ [x]).length : Nat) : Int) - 1).toNat < (acc ++ [x]).length := by omega
  refine zan (σ' := ⟨[(0, pSelf), (1, ⟨i64, lo⟩), (2, ⟨i64, hi⟩), (3, ⟨.bool, z⟩), (9, ⟨.obuf i64, (2 : Nat)⟩)], [(0, some (pBox ty s st2)), (1, some (.buf 73 nd l)), (2, some (.buf 3 i64 (acc ++ [x])))], 3⟩) ⟨⟨rfl, rfl, rfl, rfl, rfl, trivial⟩, ⟨rfl, rfl, rfl, trivial⟩, rfl, rfl⟩ ?_
  (repeat (first | refine zae ?_ | refine zac ?_ | refine zab ?_ | refine zad ?_)); refine zaa hX zaj rfl ?_ ?_
  · exact ⟨q0, q1, q2, q3⟩
  refine ⟨(j, st2, acc ++ [x]), ⟨hR0 ▸ hR, by show (acc ++ [x]).length + j = 66; omega, hst3, by show (acc ++ [x]).length ≤ 64; omega⟩, Nat.lt_succ_self j, ⟨rfl, rfl, rfl, rfl, rfl, vI64 ?_, trivial⟩, ⟨rfl, rfl, rfl, trivial⟩, rfl, rfl⟩
  show (acc ++ [x]).getD ((((acc ++ [x]).length : Nat) : Int) - 1).toNat 0 = (acc ++ [x]).getLast?.getD (lo - 1)
  rw [show ((((acc ++ [x]).length : Nat) : Int) - 1).toNat = acc.length by omega]
  simp
def hFd : List (FuncId × HCtr) := [(202, zfu), (209, zgS), (210, zn1), (206, zro), (81, zfO)]
theorem zbG : HsOk Tryz.prog gmH hFd := .cons zeN <| .cons zki <| .cons zoz <| .cons zqD <| .cons zd8 .nil
theorem nthT (a b : Bool) : (bif !a then true else !b) = ((!a) || (!b)) := by cases a <;> rfl
@[reducible] def zc0 (w : LeafW) : HCtr := hP [] nd (fun _ _ => []) fun x _ => toX (fun r => (r.1, psX x.1 r.2 x.2.2.1)) (zcY x.1 (stOf x) w)
@[reducible] def zft (w : SufW) : HCtr := hP [] nd (fun _ _ => []) fun x _ => toX (fun r => (r.1, psX x.1 r.2 x.2.2.1)) (gSuf x.1 (stOf x) w)
theorem zpn : zaA Tryz.prog gmH 237 (zc0 .days) := by
  refine zar (K := _) zaj Tryz.func237 rfl rfl za6 Tryz.call237 rfl (Nat.le_of_ble_eq_true rfl) zaN ?_
  rintro w0 ⟨G, O, K, fix, D, ρ, B⟩ ty hX hG hK hρ hD hinv ⟨(s : List UInt8), (t : TokT), (l : List Nd), (b : Int), ⟨⟩⟩ ⟨⟩ hp
  obtain rfl : G = gmH := hG
  obtain rfl : K = 1 := hK
  obtain rfl : ρ = none := hρ
  obtain rfl : D = [] := hD
  have hI := zaD (ty := ty) (ty' := ty) hX rfl hinv
  have hok0 : pOk (s, t, l, b, ()) := hp
  change AWP _ _ _ _ _ ⟨[(0, pSelf)], pE ty s (t, b) l, 2⟩ (pQ _ (zc0 .days) ty (toX (fun r => (r.1, psX s r.2 l)) (zcY s (t, b) .days)))
  unfold zcY
  (repeat (first | refine zae ?_ | refine zac ?_ | refine zab ?_ | refine zad ?_)); refine zaa hX zaj rfl ?_ ?_
  · trivial
  (repeat (first | refine zae ?_ | refine zac ?_ | refine zab ?_ | refine zad ?_)); refine zah ?_
  refine zax 1 hX zaj zbG rfl trivial rfl rfl hok0 hI (e := zaI s (t, b) 1 zc3) rfl (fun er h => ?_) (fun a0 h0 => ?_)
  · rw [zal h]
    exact rfl
  rw [zao h0]
  obtain ⟨x0, st0⟩ := a0
  have hok1 : pOk (s, st0.1, l, st0.2, ()) := ⟨((zap hok0.1 h0).1).1, hok0.2⟩
  refine AL.all hX zaj rfl trivial ?_
  refine zan (σ' := ⟨[(0, pSelf), (2, ⟨.optr nd, ⟨2, nd, .here⟩⟩), (3, ⟨i64, x0⟩)], [(0, some (pBox ty s st0)), (1, some (.buf 73 nd l)), (2, some (.box nd zNd))], 3⟩) ⟨⟨rfl, rfl, rfl, trivial⟩, ⟨rfl, rfl, rfl, trivial⟩, rfl, rfl⟩ ?_
  (repeat (first | refine zae ?_ | refine zac ?_ | refine zab ?_ | refine zad ?_)); refine zah ?_
  refine zax 2 hX zaj zbG rfl trivial rfl rfl hok1 hI (e := zaI s st0 0 zc3) rfl (fun er h => ?_) (fun a1 h1 => ?_)
  · rw [zal h]
    exact rfl
  rw [zao h1]
  obtain ⟨x1, st1⟩ := a1
  have hok2 : pOk (s, st1.1, l, st1.2, ()) := ⟨((zap hok1.1 h1).1).1, hok1.2⟩
  refine AL.all hX zaj rfl trivial ?_
  exact AWP.ret ⟨.inr rfl, ⟨_, rfl, nd, 1, _, rfl, rfl, rfl⟩, zay rfl trivial rfl rfl rfl⟩
theorem znL : zaA Tryz.prog gmH 238 (zc0 .years) := by
  refine zar (K := _) zaj Tryz.func238 rfl rfl za6 Tryz.call238 rfl (Nat.le_of_ble_eq_true rfl) zaN ?_
  rintro w0 ⟨G, O, K, fix, D, ρ, B⟩ ty hX hG hK hρ hD hinv ⟨(s : List UInt8), (t : TokT), (l : List Nd), (b : Int), ⟨⟩⟩ ⟨⟩ hp
  obtain rfl : G = gmH := hG
  obtain rfl : K = 1 := hK
  obtain rfl : ρ = none := hρ
  obtain rfl : D = [] := hD
  have hI := zaD (ty := ty) (ty' := ty) hX rfl hinv
  have hok0 : pOk (s, t, l, b, ()) := hp
  change AWP _ _ _ _ _ ⟨[(0, pSelf)], pE ty s (t, b) l, 2⟩ (pQ _ (zc0 .years) ty (toX (fun r => (r.1, psX s r.2 l)) (zcY s (t, b) .years)))
  unfold zcY
  (repeat (first | refine zae ?_ | refine zac ?_ | refine zab ?_ | refine zad ?_)); refine zaa hX zaj rfl ?_ ?_
  · trivial
  (repeat (first | refine zae ?_ | refine zac ?_ | refine zab ?_ | refine zad ?_)); refine zah ?_
  refine zax 1 hX zaj zbG rfl trivial rfl rfl hok0 hI (e := gCal s (t, b)) rfl (fun er h => ?_) (fun a0 h0 => ?_)
  · rw [zal h]
    exact rfl
  rw [zao h0]
  obtain ⟨x0, st0⟩ := a0
  have hok1 : pOk (s, st0.1, l, st0.2, ()) := ⟨((zap hok0.1 h0).1).1, hok0.2⟩
  refine AL.all hX zaj rfl trivial ?_
  refine zan (σ' := ⟨[(0, pSelf), (2, ⟨.optr nd, ⟨2, nd, .here⟩⟩), (3, ⟨.optr nd, ⟨3, nd, .here⟩⟩)], [(0, some (pBox ty s st0)), (1, some (.buf 73 nd l)), (2, some (.box nd zNd)), (3, some (.box nd (2, x0, 0, 0, 0, 0, [], [], ())))], 4⟩) ⟨⟨rfl, rfl, rfl, trivial⟩, ⟨rfl, rfl, rfl, rfl, trivial⟩, rfl, rfl⟩ ?_
  (repeat (first | refine zae ?_ | refine zac ?_ | refine zab ?_ | refine zad ?_)); refine zah ?_
  refine zax 1 hX zaj zbG rfl trivial rfl rfl hok1 hI (e := zaI s st0 1 400) rfl (fun er h => ?_) (fun a1 h1 => ?_)
  · rw [zal h]
    exact rfl
  rw [zao h1]
  obtain ⟨x1, st1⟩ := a1
  have hok2 : pOk (s, st1.1, l, st1.2, ()) := ⟨((zap hok1.1 h1).1).1, hok1.2⟩
  refine AL.all hX zaj rfl trivial ?_
  refine zan (σ' := ⟨[(0, pSelf), (2, ⟨.optr nd, ⟨2, nd, .here⟩⟩), (3, ⟨.optr nd, ⟨3, nd, .here⟩⟩)], [(0, some (pBox ty s st1)), (1, some (.buf 73 nd l)), (2, some (.box nd zNd)), (3, some (.box nd (2, x0, 0, 0, x1, 0, [], [], ())))], 4⟩) ⟨⟨rfl, rfl, rfl, trivial⟩, ⟨rfl, rfl, rfl, rfl, trivial⟩, rfl, rfl⟩ ?_
  (repeat (first | refine zae ?_ | refine zac ?_ | refine zab ?_ | refine zad ?_)); refine zah ?_
  have hyb := (zap hok1.1 h1).2
  have hyc : inR .i64 (x1 - 1) := zat (by omega) (by omega)
  refine zax 4 hX zaj zbG rfl hyc rfl rfl hok2 hI (e := zaI s st1 0 (x1 - 1)) rfl (fun er h => ?_) (fun a2 h2 => ?_)
  · rw [zal h]
    exact rfl
  rw [zao h2]
  obtain ⟨x2, st2⟩ := a2
  have hok3 : pOk (s, st2.1, l, st2.2, ()) := ⟨((zap hok2.1 h2).1).1, hok2.2⟩
  refine AL.all hX zaj rfl trivial ?_
  refine zan (σ' := ⟨[(0, pSelf), (2, ⟨.optr nd, ⟨2, nd, .here⟩⟩), (3, ⟨.optr nd, ⟨3, nd, .here⟩⟩)], [(0, some (pBox ty s st2)), (1, some (.buf 73 nd l)), (2, some (.box nd zNd)), (3, some (.box nd (2, x0, 0, 0, x1, x2, [], [], ())))], 4⟩) ⟨⟨rfl, rfl, rfl, trivial⟩, ⟨rfl, rfl, rfl, rfl, trivial⟩, rfl, rfl⟩ ?_
  (repeat (first | refine zae ?_ | refine zac ?_ | refine zak ?_ | refine zad ?_ | refine zab ?_ | refine zaa hX zaj rfl trivial ?_ | refine zaa hX zaj rfl id ?_ | refine zaa hX zaj rfl ⟨id, id⟩ ?_))
  exact AWP.ret ⟨.inr rfl, ⟨_, rfl, nd, 1, _, rfl, rfl, rfl⟩, zay rfl trivial rfl rfl rfl⟩
theorem zl3 : zaA Tryz.prog gmH 239 (zc0 .months) := by
  refine zar (K := _) zaj Tryz.func239 rfl rfl za6 Tryz.call239 rfl (Nat.le_of_ble_eq_true rfl) zaN ?_
  rintro w0 ⟨G, O, K, fix, D, ρ, B⟩ ty hX hG hK hρ hD hinv ⟨(s : List UInt8), (t : TokT), (l : List Nd), (b : Int), ⟨⟩⟩ ⟨⟩ hp
  obtain rfl : G = gmH := hG
  obtain rfl : K = 1 := hK
  obtain rfl : ρ = none := hρ
  obtain rfl : D = [] := hD
  have hI := zaD (ty := ty) (ty' := ty) hX rfl hinv
  have hok0 : pOk (s, t, l, b, ()) := hp
  change AWP _ _ _ _ _ ⟨[(0, pSelf)], pE ty s (t, b) l, 2⟩ (pQ _ (zc0 .months) ty (toX (fun r => (r.1, psX s r.2 l)) (zcY s (t, b) .months)))
  unfold zcY
  (repeat (first | refine zae ?_ | refine zac ?_ | refine zab ?_ | refine zad ?_)); refine zaa hX zaj rfl ?_ ?_
  · trivial
  (repeat (first | refine zae ?_ | refine zac ?_ | refine zab ?_ | refine zad ?_)); refine zah ?_
  refine zax 1 hX zaj zbG rfl trivial rfl rfl hok0 hI (e := gCal s (t, b)) rfl (fun er h => ?_) (fun a0 h0 => ?_)
  · rw [zal h]
    exact rfl
  rw [zao h0]
  obtain ⟨x0, st0⟩ := a0
  have hok1 : pOk (s, st0.1, l, st0.2, ()) := ⟨((zap hok0.1 h0).1).1, hok0.2⟩
  refine AL.all hX zaj rfl trivial ?_
  refine zan (σ' := ⟨[(0, pSelf), (2, ⟨.optr nd, ⟨2, nd, .here⟩⟩), (3, ⟨i64, x0⟩)], [(0, some (pBox ty s st0)), (1, some (.buf 73 nd l)), (2, some (.box nd zNd))], 3⟩) ⟨⟨rfl, rfl, rfl, trivial⟩, ⟨rfl, rfl, rfl, trivial⟩, rfl, rfl⟩ ?_
  (repeat (first | refine zae ?_ | refine zac ?_ | refine zab ?_ | refine zad ?_)); refine zah ?_
  refine zax 2 hX zaj zbG rfl trivial rfl rfl ⟨hok1, (by decide : (-1000 : Int) ≤ 1), (by decide : (1 : Int) ≤ 1000)⟩ hI (e := zcX s st0 1 16 true) rfl (fun er h => ?_) (fun a1 h1 => ?_)
  · rw [zal h]
    exact rfl
  rw [zao h1]
  obtain ⟨x1, st1⟩ := a1
  have hok2 : pOk (s, st1.1, l, st1.2, ()) := ⟨(zbO hok1.1 h1).1, hok1.2⟩
  refine AL.all hX zaj rfl trivial ?_
  exact AWP.ret ⟨.inr rfl, ⟨_, rfl, nd, 1, _, rfl, rfl, rfl⟩, zay rfl trivial rfl rfl rfl⟩
theorem zic : zaA Tryz.prog gmH 240 (zc0 .monthdays) := by
  refine zar (K := _) zaj Tryz.func240 rfl rfl za6 Tryz.call240 rfl (Nat.le_of_ble_eq_true rfl) zaN ?_
  rintro w0 ⟨G, O, K, fix, D, ρ, B⟩ ty hX hG hK hρ hD hinv ⟨(s : List UInt8), (t : TokT), (l : List Nd), (b : Int), ⟨⟩⟩ ⟨⟩ hp
  obtain rfl : G = gmH := hG
  obtain rfl : K = 1 := hK
  obtain rfl : ρ = none := hρ
  obtain rfl : D = [] := hD
  have hI := zaD (ty := ty) (ty' := ty) hX rfl hinv
  have hok0 : pOk (s, t, l, b, ()) := hp
  change AWP _ _ _ _ _ ⟨[(0, pSelf)], pE ty s (t, b) l, 2⟩ (pQ _ (zc0 .monthdays) ty (toX (fun r => (r.1, psX s r.2 l)) (zcY s (t, b) .monthdays)))
  unfold zcY
  (repeat (first | refine zae ?_ | refine zac ?_ | refine zab ?_ | refine zad ?_)); refine zaa hX zaj rfl ?_ ?_
  · trivial
  (repeat (first | refine zae ?_ | refine zac ?_ | refine zab ?_ | refine zad ?_)); refine zah ?_
  refine zax 1 hX zaj zbG rfl trivial rfl rfl hok0 hI (e := gCal s (t, b)) rfl (fun er h => ?_) (fun a0 h0 => ?_)
  · rw [zal h]
    exact rfl
  rw [zao h0]
  obtain ⟨x0, st0⟩ := a0
  have hok1 : pOk (s, st0.1, l, st0.2, ()) := ⟨((zap hok0.1 h0).1).1, hok0.2⟩
  refine AL.all hX zaj rfl trivial ?_
  refine zan (σ' := ⟨[(0, pSelf), (2, ⟨.optr nd, ⟨2, nd, .here⟩⟩), (3, ⟨i64, x0⟩)], [(0, some (pBox ty s st0)), (1, some (.buf 73 nd l)), (2, some (.box nd zNd))], 3⟩) ⟨⟨rfl, rfl, rfl, trivial⟩, ⟨rfl, rfl, rfl, trivial⟩, rfl, rfl⟩ ?_
  (repeat (first | refine zae ?_ | refine zac ?_ | refine zab ?_ | refine zad ?_)); refine zah ?_
  refine zax 2 hX zaj zbG rfl trivial rfl rfl ⟨hok1, (by decide : (-1000 : Int) ≤ (-40)), (by decide : ((-40) : Int) ≤ 1000)⟩ hI (e := zcX s st0 (-40) 40 false) rfl (fun er h => ?_) (fun a1 h1 => ?_)
  · rw [zal h]
    exact rfl
  rw [zao h1]
  obtain ⟨x1, st1⟩ := a1
  have hok2 : pOk (s, st1.1, l, st1.2, ()) := ⟨(zbO hok1.1 h1).1, hok1.2⟩
  refine AL.all hX zaj rfl trivial ?_
  exact AWP.ret ⟨.inr rfl, ⟨_, rfl, nd, 1, _, rfl, rfl, rfl⟩, zay rfl trivial rfl rfl rfl⟩
theorem znM : zaA Tryz.prog gmH 242 (zc0 .weeks) := by
  refine zar (K := _) zaj Tryz.func242 rfl rfl za6 Tryz.call242 rfl (Nat.le_of_ble_eq_true rfl) zaN ?_
  rintro w0 ⟨G, O, K, fix, D, ρ, B⟩ ty hX hG hK hρ hD hinv ⟨(s : List UInt8), (t : TokT), (l : List Nd), (b : Int), ⟨⟩⟩ ⟨⟩ hp
  obtain rfl : G = gmH := hG
  obtain rfl : K = 1 := hK
  obtain rfl : ρ = none := hρ
  obtain rfl : D = [] := hD
  have hI := zaD (ty := ty) (ty' := ty) hX rfl hinv
  have hok0 : pOk (s, t, l, b, ()) := hp
  change AWP _ _ _ _ _ ⟨[(0, pSelf)], pE ty s (t, b) l, 2⟩ (pQ _ (zc0 .weeks) ty (toX (fun r => (r.1, psX s r.2 l)) (zcY s (t, b) .weeks)))
  unfold zcY
  (repeat (first | refine zae ?_ | refine zac ?_ | refine zab ?_ | refine zad ?_)); refine zaa hX zaj rfl ?_ ?_
  · trivial
  (repeat (first | refine zae ?_ | refine zac ?_ | refine zab ?_ | refine zad ?_)); refine zah ?_
  refine zax 1 hX zaj zbG rfl trivial rfl rfl hok0 hI (e := gCal s (t, b)) rfl (fun er h => ?_) (fun a0 h0 => ?_)
  · rw [zal h]
    exact rfl
  rw [zao h0]
  obtain ⟨x0, st0⟩ := a0
  have hok1 : pOk (s, st0.1, l, st0.2, ()) := ⟨((zap hok0.1 h0).1).1, hok0.2⟩
  refine AL.all hX zaj rfl trivial ?_
  refine zan (σ' := ⟨[(0, pSelf), (2, ⟨.optr nd, ⟨2, nd, .here⟩⟩), (3, ⟨i64, x0⟩)], [(0, some (pBox ty s st0)), (1, some (.buf 73 nd l)), (2, some (.box nd zNd))], 3⟩) ⟨⟨rfl, rfl, rfl, trivial⟩, ⟨rfl, rfl, rfl, trivial⟩, rfl, rfl⟩ ?_
  (repeat (first | refine zae ?_ | refine zac ?_ | refine zab ?_ | refine zad ?_)); refine zah ?_
  refine zax 2 hX zaj zbG rfl trivial rfl rfl ⟨hok1, (by decide : (-1000 : Int) ≤ 1), (by decide : (1 : Int) ≤ 1000)⟩ hI (e := zcX s st0 1 54 true) rfl (fun er h => ?_) (fun a1 h1 => ?_)
  · rw [zal h]
    exact rfl
  rw [zao h1]
  obtain ⟨x1, st1⟩ := a1
  have hok2 : pOk (s, st1.1, l, st1.2, ()) := ⟨(zbO hok1.1 h1).1, hok1.2⟩
  refine AL.all hX zaj rfl trivial ?_
  exact AWP.ret ⟨.inr rfl, ⟨_, rfl, nd, 1, _, rfl, rfl, rfl⟩, zay rfl trivial rfl rfl rfl⟩
theorem zjn : zaA Tryz.prog gmH 241 (zc0 .weekdays) := by
  refine zar (K := _) zaj Tryz.func241 rfl rfl za6 Tryz.call241 rfl (Nat.le_of_ble_eq_true rfl) zaN ?_
  rintro w0 ⟨G, O, K, fix, D, ρ, B⟩ ty hX hG hK hρ hD hinv ⟨(s : List UInt8), (t : TokT), (l : List Nd), (b : Int), ⟨⟩⟩ ⟨⟩ hp
  obtain rfl : G = gmH := hG
  obtain rfl : K = 1 := hK
  obtain rfl : ρ = none := hρ
  obtain rfl : D = [] := hD
  have hI := zaD (ty := ty) (ty' := ty) hX rfl hinv
  have hok0 : pOk (s, t, l, b, ()) := hp
  change AWP _ _ _ _ _ ⟨[(0, pSelf)], pE ty s (t, b) l, 2⟩ (pQ _ (zc0 .weekdays) ty (toX (fun r => (r.1, psX s r.2 l)) (zcY s (t, b) .weekdays)))
  unfold zcY
  (repeat (first | refine zae ?_ | refine zac ?_ | refine zab ?_ | refine zad ?_)); refine zaa hX zaj rfl ?_ ?_
  · trivial
  (repeat (first | refine zae ?_ | refine zac ?_ | refine zab ?_ | refine zad ?_)); refine zah ?_
  refine zax 1 hX zaj zbG rfl trivial rfl rfl ⟨hok0, (by decide : (-1000 : Int) ≤ 0), (by decide : (0 : Int) ≤ 1000)⟩ hI (e := zcX s (t, b) 0 6 true) rfl (fun er h => ?_) (fun a0 h0 => ?_)
  · rw [zal h]
    exact rfl
  rw [zao h0]
  obtain ⟨x0, st0⟩ := a0
  have hok1 : pOk (s, st0.1, l, st0.2, ()) := ⟨(zbO hok0.1 h0).1, hok0.2⟩
  refine AL.all hX zaj rfl trivial ?_
  exact AWP.ret ⟨.inr rfl, ⟨_, rfl, nd, 1, _, rfl, rfl, rfl⟩, zay rfl trivial rfl rfl rfl⟩
theorem zrb : zaA Tryz.prog gmH 243 (zc0 .nth) := by
  refine zar (K := _) zaj Tryz.func243 rfl rfl za6 Tryz.call243 rfl (Nat.le_of_ble_eq_true rfl) zaN ?_
  rintro w0 ⟨G, O, K, fix, D, ρ, B⟩ ty hX hG hK hρ hD hinv ⟨(s : List UInt8), (t : TokT), (l : List Nd), (b : Int), ⟨⟩⟩ ⟨⟩ hp
  obtain rfl : G = gmH := hG
  obtain rfl : K = 1 := hK
  obtain rfl : ρ = none := hρ
  obtain rfl : D = [] := hD
  have hI := zaD (ty := ty) (ty' := ty) hX rfl hinv
  have hok0 : pOk (s, t, l, b, ()) := hp
  change AWP _ _ _ _ _ ⟨[(0, pSelf)], pE ty s (t, b) l, 2⟩ (pQ _ (zc0 .nth) ty (toX (fun r => (r.1, psX s r.2 l)) (zcY s (t, b) .nth)))
  unfold zcY
  (repeat (first | refine zae ?_ | refine zac ?_ | refine zab ?_ | refine zad ?_)); refine zaa hX zaj rfl ?_ ?_
  · trivial
  (repeat (first | refine zae ?_ | refine zac ?_ | refine zab ?_ | refine zad ?_)); refine zah ?_
  refine zax 1 hX zaj zbG rfl trivial rfl rfl hok0 hI (e := gCal s (t, b)) rfl (fun er h => ?_) (fun a0 h0 => ?_)
  · rw [zal h]
    exact rfl
  rw [zao h0]
  obtain ⟨x0, st0⟩ := a0
  have hok1 : pOk (s, st0.1, l, st0.2, ()) := ⟨((zap hok0.1 h0).1).1, hok0.2⟩
  refine AL.all hX zaj rfl trivial ?_
  refine zan (σ' := ⟨[(0, pSelf), (2, ⟨.optr nd, ⟨2, nd, .here⟩⟩), (3, ⟨.optr nd, ⟨3, nd, .here⟩⟩)], [(0, some (pBox ty s st0)), (1, some (.buf 73 nd l)), (2, some (.box nd zNd)), (3, some (.box nd (7, x0, 0, 0, 0, 0, [], [], ())))], 4⟩) ⟨⟨rfl, rfl, rfl, trivial⟩, ⟨rfl, rfl, rfl, rfl, trivial⟩, rfl, rfl⟩ ?_
  (repeat (first | refine zae ?_ | refine zac ?_ | refine zab ?_ | refine zad ?_)); refine zah ?_
  refine zax 15 hX zaj zbG rfl ?_ rfl rfl hok1 hI (e := zaB st0 (bif !(Tok.cls st0.1 == 3) then true else !(Tok.n st0.1 == 0)) 1) rfl (fun er h => ?_) (fun u1 h1 => ?_)
  · repeat' (first | exact trivial | assumption | (refine ⟨?_, ?_⟩) | (intro _) | exact Nat.le_of_ble_eq_true rfl | exact Int.natCast_nonneg _ | (simp_all [allP]; done))
  · rw [nthT] at h
    rw [zal (show zaB st0 ((Tok.cls st0.1 != 3) || (Tok.n st0.1 != 0)) 1 = _ from h)]
    exact rfl
  rw [nthT] at h1
  rw [zao (show zaB st0 ((Tok.cls st0.1 != 3) || (Tok.n st0.1 != 0)) 1 = _ from h1)]
  refine AL.nil ?_
  refine zan (σ' := ⟨[(0, pSelf), (2, ⟨.optr nd, ⟨2, nd, .here⟩⟩), (3, ⟨.optr nd, ⟨3, nd, .here⟩⟩)], [(0, some (pBox ty s st0)), (1, some (.buf 73 nd l)), (2, some (.box nd zNd)), (3, some (.box nd (7, x0, 0, 0, 0, 0, [], [], ())))], 4⟩) ⟨⟨rfl, rfl, rfl, trivial⟩, ⟨rfl, rfl, rfl, rfl, trivial⟩, rfl, rfl⟩ ?_
  (repeat (first | refine zae ?_ | refine zac ?_ | refine zab ?_ | refine zad ?_)); refine zah ?_
  refine zax 1 hX zaj zbG rfl trivial rfl rfl hok1 hI (e := zaI s st0 (-60) 60) rfl (fun er h => ?_) (fun a2 h2 => ?_)
  · rw [zal h]
    exact rfl
  rw [zao h2]
  obtain ⟨x2, st2⟩ := a2
  have hok2 : pOk (s, st2.1, l, st2.2, ()) := ⟨((zap hok1.1 h2).1).1, hok1.2⟩
  refine AL.all hX zaj rfl trivial ?_
  refine zan (σ' := ⟨[(0, pSelf), (2, ⟨.optr nd, ⟨2, nd, .here⟩⟩), (3, ⟨.optr nd, ⟨3, nd, .here⟩⟩)], [(0, some (pBox ty s st2)), (1, some (.buf 73 nd l)), (2, some (.box nd zNd)), (3, some (.box nd (7, x0, 0, 0, x2, 0, [], [], ())))], 4⟩) ⟨⟨rfl, rfl, rfl, trivial⟩, ⟨rfl, rfl, rfl, rfl, trivial⟩, rfl, rfl⟩ ?_
  (repeat (first | refine zae ?_ | refine zac ?_ | refine zab ?_ | refine zad ?_)); refine zah ?_
  refine zax 1 hX zaj zbG rfl trivial rfl rfl hok2 hI (e := zaI s st2 0 6) rfl (fun er h => ?_) (fun a3 h3 => ?_)
  · rw [zal h]
    exact rfl
  rw [zao h3]
  obtain ⟨x3, st3⟩ := a3
  have hok3 : pOk (s, st3.1, l, st3.2, ()) := ⟨((zap hok2.1 h3).1).1, hok2.2⟩
  refine AL.all hX zaj rfl trivial ?_
  refine zan (σ' := ⟨[(0, pSelf), (2, ⟨.optr nd, ⟨2, nd, .here⟩⟩), (3, ⟨.optr nd, ⟨3, nd, .here⟩⟩)], [(0, some (pBox ty s st3)), (1, some (.buf 73 nd l)), (2, some (.box nd zNd)), (3, some (.box nd (7, x0, 0, 0, x2, x3, [], [], ())))], 4⟩) ⟨⟨rfl, rfl, rfl, trivial⟩, ⟨rfl, rfl, rfl, rfl, trivial⟩, rfl, rfl⟩ ?_
  (repeat (first | refine zae ?_ | refine zac ?_ | refine zab ?_ | refine zad ?_)); refine zah ?_
  refine zax 1 hX zaj zbG rfl trivial rfl rfl hok3 hI (e := zdi s st3) rfl (fun er h => ?_) (fun a4 h4 => ?_)
  · rw [zal h]
    exact rfl
  rw [zao h4]
  obtain ⟨x4, st4⟩ := a4
  have hok4 : pOk (s, st4.1, l, st4.2, ()) := ⟨(zdO hok3.1 h4).1, hok3.2⟩
  refine AL.all hX zaj rfl trivial ?_
  refine zan (σ' := ⟨[(0, pSelf), (2, ⟨.optr nd, ⟨2, nd, .here⟩⟩), (3, ⟨.optr nd, ⟨3, nd, .here⟩⟩)], [(0, some (pBox ty s st4)), (1, some (.buf 73 nd l)), (2, some (.box nd zNd)), (3, some (.box nd (7, x0, x4, 0, x2, x3, [], [], ())))], 4⟩) ⟨⟨rfl, rfl, rfl, trivial⟩, ⟨rfl, rfl, rfl, rfl, trivial⟩, rfl, rfl⟩ ?_
  (repeat (first | refine zae ?_ | refine zac ?_ | refine zak ?_ | refine zad ?_ | refine zab ?_ | refine zaa hX zaj rfl trivial ?_ | refine zaa hX zaj rfl id ?_ | refine zaa hX zaj rfl ⟨id, id⟩ ?_))
  exact AWP.ret ⟨.inr rfl, ⟨_, rfl, nd, 1, _, rfl, rfl, rfl⟩, zay rfl trivial rfl rfl rfl⟩
theorem znO : zaA Tryz.prog gmH 201 (zft .shift) := by
  refine zar (K := _) zaj Tryz.func201 rfl rfl za6 Tryz.call201 rfl (Nat.le_of_ble_eq_true rfl) zaN ?_
  rintro w0 ⟨G, O, K, fix, D, ρ, B⟩ ty hX hG hK hρ hD hinv ⟨(s : List UInt8), (t : TokT), (l : List Nd), (b : Int), ⟨⟩⟩ ⟨⟩ hp
  obtain rfl : G = gmH := hG
  obtain rfl : K = 1 := hK
  obtain rfl : ρ = none := hρ
  obtain rfl : D = [] := hD
  have hI := zaD (ty := ty) (ty' := ty) hX rfl hinv
  have hok0 : pOk (s, t, l, b, ()) := hp
  change AWP _ _ _ _ _ ⟨[(0, pSelf)], pE ty s (t, b) l, 2⟩ (pQ _ (zft .shift) ty (toX (fun r => (r.1, psX s r.2 l)) (gSuf s (t, b) .shift)))
  unfold gSuf
  (repeat (first | refine zae ?_ | refine zac ?_ | refine zab ?_ | refine zad ?_)); refine zaa hX zaj rfl ?_ ?_
  · trivial
  (repeat (first | refine zae ?_ | refine zac ?_ | refine zab ?_ | refine zad ?_)); refine zah ?_
  refine zax 1 hX zaj zbG rfl trivial rfl rfl hok0 hI (e := zaI s (t, b) (-zc3) zc3) rfl (fun er h => ?_) (fun a0 h0 => ?_)
  · rw [zal h]
    exact rfl
  rw [zao h0]
  obtain ⟨x0, st0⟩ := a0
  have hok1 : pOk (s, st0.1, l, st0.2, ()) := ⟨((zap hok0.1 h0).1).1, hok0.2⟩
  refine AL.all hX zaj rfl trivial ?_
  exact AWP.ret ⟨.inr rfl, ⟨_, rfl, nd, 1, _, rfl, rfl, rfl⟩, zay rfl trivial rfl rfl rfl⟩
theorem zpm : zaA Tryz.prog gmH 203 (zft .from_) := by
  refine zar (K := _) zaj Tryz.func203 rfl rfl za6 Tryz.call203 rfl (Nat.le_of_ble_eq_true rfl) zaN ?_
  rintro w0 ⟨G, O, K, fix, D, ρ, B⟩ ty hX hG hK hρ hD hinv ⟨(s : List UInt8), (t : TokT), (l : List Nd), (b : Int), ⟨⟩⟩ ⟨⟩ hp
  obtain rfl : G = gmH := hG
  obtain rfl : K = 1 := hK
  obtain rfl : ρ = none := hρ
  obtain rfl : D = [] := hD
  have hI := zaD (ty := ty) (ty' := ty) hX rfl hinv
  have hok0 : pOk (s, t, l, b, ()) := hp
  change AWP _ _ _ _ _ ⟨[(0, pSelf)], pE ty s (t, b) l, 2⟩ (pQ _ (zft .from_) ty (toX (fun r => (r.1, psX s r.2 l)) (gSuf s (t, b) .from_)))
  unfold gSuf
  (repeat (first | refine zae ?_ | refine zac ?_ | refine zab ?_ | refine zad ?_)); refine zaa hX zaj rfl ?_ ?_
  · trivial
  (repeat (first | refine zae ?_ | refine zac ?_ | refine zab ?_ | refine zad ?_)); refine zah ?_
  refine zax 1 hX zaj zbG rfl trivial rfl rfl hok0 hI (e := zaI s (t, b) 0 zc3) rfl (fun er h => ?_) (fun a0 h0 => ?_)
  · rw [zal h]
    exact rfl
  rw [zao h0]
  obtain ⟨x0, st0⟩ := a0
  have hok1 : pOk (s, st0.1, l, st0.2, ()) := ⟨((zap hok0.1 h0).1).1, hok0.2⟩
  refine AL.all hX zaj rfl trivial ?_
  exact AWP.ret ⟨.inr rfl, ⟨_, rfl, nd, 1, _, rfl, rfl, rfl⟩, zay rfl trivial rfl rfl rfl⟩
theorem znN : zaA Tryz.prog gmH 204 (zft .until_) := by
  refine zar (K := _) zaj Tryz.func204 rfl rfl za6 Tryz.call204 rfl (Nat.le_of_ble_eq_true rfl) zaN ?_
  rintro w0 ⟨G, O, K, fix, D, ρ, B⟩ ty hX hG hK hρ hD hinv ⟨(s : List UInt8), (t : TokT), (l : List Nd), (b : Int), ⟨⟩⟩ ⟨⟩ hp
  obtain rfl : G = gmH := hG
  obtain rfl : K = 1 := hK
  obtain rfl : ρ = none := hρ
  obtain rfl : D = [] := hD
  have hI := zaD (ty := ty) (ty' := ty) hX rfl hinv
  have hok0 : pOk (s, t, l, b, ()) := hp
  change AWP _ _ _ _ _ ⟨[(0, pSelf)], pE ty s (t, b) l, 2⟩ (pQ _ (zft .until_) ty (toX (fun r => (r.1, psX s r.2 l)) (gSuf s (t, b) .until_)))
  unfold gSuf
  (repeat (first | refine zae ?_ | refine zac ?_ | refine zab ?_ | refine zad ?_)); refine zaa hX zaj rfl ?_ ?_
  · trivial
  (repeat (first | refine zae ?_ | refine zac ?_ | refine zab ?_ | refine zad ?_)); refine zah ?_
  refine zax 1 hX zaj zbG rfl trivial rfl rfl hok0 hI (e := zaI s (t, b) 0 zc3) rfl (fun er h => ?_) (fun a0 h0 => ?_)
  · rw [zal h]
    exact rfl
  rw [zao h0]
  obtain ⟨x0, st0⟩ := a0
  have hok1 : pOk (s, st0.1, l, st0.2, ()) := ⟨((zap hok0.1 h0).1).1, hok0.2⟩
  refine AL.all hX zaj rfl trivial ?_
  exact AWP.ret ⟨.inr rfl, ⟨_, rfl, nd, 1, _, rfl, rfl, rfl⟩, zay rfl trivial rfl rfl rfl⟩
theorem zpo : zaA Tryz.prog gmH 205 (zft .also) := by
  refine zar (K := _) zaj Tryz.func205 rfl rfl za6 Tryz.call205 rfl (Nat.le_of_ble_eq_true rfl) zaN ?_
  rintro w0 ⟨G, O, K, fix, D, ρ, B⟩ ty hX hG hK hρ hD hinv ⟨(s : List UInt8), (t : TokT), (l : List Nd), (b : Int), ⟨⟩⟩ ⟨⟩ hp
  obtain rfl : G = gmH := hG
  obtain rfl : K = 1 := hK
  obtain rfl : ρ = none := hρ
  obtain rfl : D = [] := hD
  have hI := zaD (ty := ty) (ty' := ty) hX rfl hinv
  have hok0 : pOk (s, t, l, b, ()) := hp
  change AWP _ _ _ _ _ ⟨[(0, pSelf)], pE ty s (t, b) l, 2⟩ (pQ _ (zft .also) ty (toX (fun r => (r.1, psX s r.2 l)) (gSuf s (t, b) .also)))
  unfold gSuf
  (repeat (first | refine zae ?_ | refine zac ?_ | refine zab ?_ | refine zad ?_)); refine zaa hX zaj rfl ?_ ?_
  · trivial
  (repeat (first | refine zae ?_ | refine zac ?_ | refine zab ?_ | refine zad ?_)); refine zah ?_
  refine zax 1 hX zaj zbG rfl trivial rfl rfl ⟨hok0, (by decide : (-1000 : Int) ≤ 0), (by decide : (0 : Int) ≤ 1000)⟩ hI (e := zcX s (t, b) 0 zc3 true) rfl (fun er h => ?_) (fun a0 h0 => ?_)
  · rw [zal h]
    exact rfl
  rw [zao h0]
  obtain ⟨x0, st0⟩ := a0
  have hok1 : pOk (s, st0.1, l, st0.2, ()) := ⟨(zbO hok0.1 h0).1, hok0.2⟩
  refine AL.all hX zaj rfl trivial ?_
  exact AWP.ret ⟨.inr rfl, ⟨_, rfl, nd, 1, _, rfl, rfl, rfl⟩, zay rfl trivial rfl rfl rfl⟩
theorem zl4 : zaA Tryz.prog gmH 207 (zft .except_) := by
  refine zar (K := _) zaj Tryz.func207 rfl rfl za6 Tryz.call207 rfl (Nat.le_of_ble_eq_true rfl) zaN ?_
  rintro w0 ⟨G, O, K, fix, D, ρ, B⟩ ty hX hG hK hρ hD hinv ⟨(s : List UInt8), (t : TokT), (l : List Nd), (b : Int), ⟨⟩⟩ ⟨⟩ hp
  obtain rfl : G = gmH := hG
  obtain rfl : K = 1 := hK
  obtain rfl : ρ = none := hρ
  obtain rfl : D = [] := hD
  have hI := zaD (ty := ty) (ty' := ty) hX rfl hinv
  have hok0 : pOk (s, t, l, b, ()) := hp
  change AWP _ _ _ _ _ ⟨[(0, pSelf)], pE ty s (t, b) l, 2⟩ (pQ _ (zft .except_) ty (toX (fun r => (r.1, psX s r.2 l)) (gSuf s (t, b) .except_)))
  unfold gSuf
  (repeat (first | refine zae ?_ | refine zac ?_ | refine zab ?_ | refine zad ?_)); refine zaa hX zaj rfl ?_ ?_
  · trivial
  (repeat (first | refine zae ?_ | refine zac ?_ | refine zab ?_ | refine zad ?_)); refine zah ?_
  refine zax 1 hX zaj zbG rfl trivial rfl rfl ⟨hok0, (by decide : (-1000 : Int) ≤ 0), (by decide : (0 : Int) ≤ 1000)⟩ hI (e := zcX s (t, b) 0 zc3 true) rfl (fun er h => ?_) (fun a0 h0 => ?_)
  · rw [zal h]
    exact rfl
  rw [zao h0]
  obtain ⟨x0, st0⟩ := a0
  have hok1 : pOk (s, st0.1, l, st0.2, ()) := ⟨(zbO hok0.1 h0).1, hok0.2⟩
  refine AL.all hX zaj rfl trivial ?_
  exact AWP.ret ⟨.inr rfl, ⟨_, rfl, nd, 1, _, rfl, rfl, rfl⟩, zay rfl trivial rfl rfl rfl⟩
theorem zra : zaA Tryz.prog gmH 208 (zft .pos) := by
  refine zar (K := _) zaj Tryz.func208 rfl rfl za6 Tryz.call208 rfl (Nat.le_of_ble_eq_true rfl) zaN ?_
  rintro w0 ⟨G, O, K, fix, D, ρ, B⟩ ty hX hG hK hρ hD hinv ⟨(s : List UInt8), (t : TokT), (l : List Nd), (b : Int), ⟨⟩⟩ ⟨⟩ hp
  obtain rfl : G = gmH := hG
  obtain rfl : K = 1 := hK
  obtain rfl : ρ = none := hρ
  obtain rfl : D = [] := hD
  have hI := zaD (ty := ty) (ty' := ty) hX rfl hinv
  have hok0 : pOk (s, t, l, b, ()) := hp
  change AWP _ _ _ _ _ ⟨[(0, pSelf)], pE ty s (t, b) l, 2⟩ (pQ _ (zft .pos) ty (toX (fun r => (r.1, psX s r.2 l)) (gSuf s (t, b) .pos)))
  unfold gSuf
  (repeat (first | refine zae ?_ | refine zac ?_ | refine zab ?_ | refine zad ?_)); refine zaa hX zaj rfl ?_ ?_
  · trivial
  (repeat (first | refine zae ?_ | refine zac ?_ | refine zab ?_ | refine zad ?_)); refine zah ?_
  refine zax 1 hX zaj zbG rfl trivial rfl rfl hok0 hI (e := gCal s (t, b)) rfl (fun er h => ?_) (fun a0 h0 => ?_)
  · rw [zal h]
    exact rfl
  rw [zao h0]
  obtain ⟨x0, st0⟩ := a0
  have hok1 : pOk (s, st0.1, l, st0.2, ()) := ⟨((zap hok0.1 h0).1).1, hok0.2⟩
  refine AL.all hX zaj rfl trivial ?_
  refine zan (σ' := ⟨[(0, pSelf), (2, ⟨.optr nd, ⟨2, nd, .here⟩⟩), (3, ⟨.optr nd, ⟨3, nd, .here⟩⟩)], [(0, some (pBox ty s st0)), (1, some (.buf 73 nd l)), (2, some (.box nd zNd)), (3, some (.box nd (16, x0, 0, 0, 0, 0, [], [], ())))], 4⟩) ⟨⟨rfl, rfl, rfl, trivial⟩, ⟨rfl, rfl, rfl, rfl, trivial⟩, rfl, rfl⟩ ?_
  (repeat (first | refine zae ?_ | refine zac ?_ | refine zab ?_ | refine zad ?_)); refine zah ?_
  refine zax 1 hX zaj zbG rfl trivial rfl rfl hok1 hI (e := zdi s st0) rfl (fun er h => ?_) (fun a1 h1 => ?_)
  · rw [zal h]
    exact rfl
  rw [zao h1]
  obtain ⟨x1, st1⟩ := a1
  have hok2 : pOk (s, st1.1, l, st1.2, ()) := ⟨(zdO hok1.1 h1).1, hok1.2⟩
  refine AL.all hX zaj rfl trivial ?_
  refine zan (σ' := ⟨[(0, pSelf), (2, ⟨.optr nd, ⟨2, nd, .here⟩⟩), (3, ⟨.optr nd, ⟨3, nd, .here⟩⟩)], [(0, some (pBox ty s st1)), (1, some (.buf 73 nd l)), (2, some (.box nd zNd)), (3, some (.box nd (16, x0, 0, 0, 0, x1, [], [], ())))], 4⟩) ⟨⟨rfl, rfl, rfl, trivial⟩, ⟨rfl, rfl, rfl, rfl, trivial⟩, rfl, rfl⟩ ?_
  (repeat (first | refine zae ?_ | refine zac ?_ | refine zab ?_ | refine zad ?_)); refine zah ?_
  refine zax 1 hX zaj zbG rfl trivial rfl rfl ⟨hok2, (by decide : (-1000 : Int) ≤ (-400)), (by decide : ((-400) : Int) ≤ 1000)⟩ hI (e := zcX s st1 (-400) 400 false) rfl (fun er h => ?_) (fun a2 h2 => ?_)
  · rw [zal h]
    exact rfl
  rw [zao h2]
  obtain ⟨x2, st2⟩ := a2
  have hok3 : pOk (s, st2.1, l, st2.2, ()) := ⟨(zbO hok2.1 h2).1, hok2.2⟩
  refine AL.all hX zaj rfl trivial ?_
  refine zan (σ' := ⟨[(0, pSelf), (2, ⟨.optr nd, ⟨2, nd, .here⟩⟩), (3, ⟨.optr nd, ⟨3, nd, .here⟩⟩)], [(0, some (pBox ty s st2)), (1, some (.buf 73 nd l)), (2, some (.box nd zNd)), (3, some (.box nd (16, x0, 0, 0, 0, x1, x2, [], ())))], 4⟩) ⟨⟨rfl, rfl, rfl, trivial⟩, ⟨rfl, rfl, rfl, rfl, trivial⟩, rfl, rfl⟩ ?_
  (repeat (first | refine zae ?_ | refine zac ?_ | refine zak ?_ | refine zad ?_ | refine zab ?_ | refine zaa hX zaj rfl trivial ?_ | refine zaa hX zaj rfl id ?_ | refine zaa hX zaj rfl ⟨id, id⟩ ?_))
  exact AWP.ret ⟨.inr rfl, ⟨_, rfl, nd, 1, _, rfl, rfl, rfl⟩, zay rfl trivial rfl rfl rfl⟩
def fnV (f : FuncId) : Value := .func (.func f) #[] #[]
def zcK : LeafW -> Value
  | .days => fnV 237
  | .years => fnV 238
  | .months => fnV 239
  | .monthdays => fnV 240
  | .weekdays => fnV 241
  | .weeks => fnV 242
  | .nth => fnV 243
def zd9 : SufW -> Value
  | .shift => fnV 201
  | .from_ => fnV 203
  | .until_ => fnV 204
  | .also => fnV 205
  | .except_ => fnV 207
  | .pos => fnV 208
  | .behind => fnV 211
def strV (w : List UInt8) : Value := .string ⟨w.toArray⟩
def zi5 : List (Value × Value) := [(strV ziz, zcK .days), (strV zfB, zcK .years), (strV zce, zcK .months), (strV zaZ, zcK .monthdays), (strV zbh, zcK .weekdays), (strV zc4, zcK .weeks), (strV wNth, zcK .nth)]
def zga : List (Value × Value) := [(strV zey, zd9 .shift), (strV zhH, zd9 .from_), (strV zex, zd9 .until_), (strV zeA, zd9 .also), (strV zcf, zd9 .except_), (strV wPos, zd9 .pos), (strV zbQ, zd9 .behind)]
theorem zoc (a b : ByteArray) : (a == b) = (a.toList == b.toList) := by
  rw [ByteArray.toList_eq, ByteArray.toList_eq]
  show (a.data == b.data) = (a.data.toList == b.data.toList)
  rw [Bool.eq_iff_iff, beq_iff_eq, beq_iff_eq]
  exact ⟨fun h => by rw [h], fun h => Array.toList_inj.1 h⟩
theorem zhD (w k : List UInt8) (v : Value) (es : List (Value × Value)) : zeY .string (strV w) ((strV k, v) :: es) = if w = k then some (some v) else zeY .string (strV w) es := by
  rw [zeY]
  have e : Instr.sameNow .string (strV w) (strV k) = some (decide (w = k)) := by
    show some ((⟨w.toArray⟩ : ByteArray) == ⟨k.toArray⟩) = _
    congr 1
    rw [zoc, zdS, zdk]
  rw [show (strV k, v).1 = strV k from rfl, e]
  by_cases h : w = k
  · rw [if_pos h, decide_eq_true h]
  · rw [if_neg h, decide_eq_false h]
theorem zno (w : List UInt8) : zeY .string (strV w) zi5 = some ((zfR w).map zcK) := by
  unfold zi5 zfR
  iterate 7 (rw [zhD]; split; · rfl)
  rfl
theorem zot (w : List UInt8) : zeY .string (strV w) zga = some ((sufW w).map zd9) := by
  unfold zga sufW
  iterate 7 (rw [zhD]; split; · rfl)
  rfl
def zn5 : Ctr := { args := [], pre := fun _ => [], res := .mapL, own := none, out := fun _ => zi5 }
def zju : Ctr := { args := [], pre := fun _ => [], res := .mapL, own := none, out := fun _ => zga }
theorem znn : CtrOk Tryz.prog gmH 200 zn5 := by
  refine zaq (K := gmK) zaj Tryz.func200 rfl rfl Tryz.call200 rfl (by decide) (by intro h; cases h) ?_
  rintro w0 X hX _ hp
  change AWP _ _ _ _ _ ⟨[], [], 0⟩ _
  refine zae ?_
  (repeat (first | refine zae ?_ | refine zac ?_ | refine zab ?_ | refine zad ?_)); refine zaa hX zaj rfl ?_ ?_
  · trivial
  (repeat (first | refine zae ?_ | refine zac ?_ | refine zab ?_ | refine zad ?_)); refine zah ?_
  refine AL.mapLit hX Tryz.underlying204 Tryz.underlying9 rfl zi5 (ins := [_, _, _, _, _, _, _]) rfl rfl rfl rfl (.cons rfl (fun _ => rfl) (fun _ => rfl) rfl rfl <| .cons rfl (fun _ => rfl) (fun _ => rfl) rfl rfl <| .cons rfl (fun _ => rfl) (fun _ => rfl) rfl rfl <| .cons rfl (fun _ => rfl) (fun _ => rfl) rfl rfl <| .cons rfl (fun _ => rfl) (fun _ => rfl) rfl rfl <| .cons rfl (fun _ => rfl) (fun _ => rfl) rfl rfl <| .cons rfl (fun _ => rfl) (fun _ => rfl) rfl rfl rfl) ⟨rfl, rfl, rfl, rfl, rfl, rfl, rfl, trivial⟩ ?_
  refine AL.all hX zaj rfl trivial ?_
  (repeat (first | refine zae ?_ | refine zac ?_ | refine zab ?_ | refine zad ?_)); exact AWP.ret ⟨.inr rfl, zay rfl trivial rfl rfl rfl⟩
theorem zjK : CtrOk Tryz.prog gmH 179 zju := by
  refine zaq (K := gmK) zaj Tryz.func179 rfl rfl Tryz.call179 rfl (by decide) (by intro h; cases h) ?_
  rintro w0 X hX _ hp
  change AWP _ _ _ _ _ ⟨[], [], 0⟩ _
  refine zae ?_
  (repeat (first | refine zae ?_ | refine zac ?_ | refine zab ?_ | refine zad ?_)); refine zaa hX zaj rfl ?_ ?_
  · trivial
  (repeat (first | refine zae ?_ | refine zac ?_ | refine zab ?_ | refine zad ?_)); refine zah ?_
  refine AL.mapLit hX Tryz.underlying204 Tryz.underlying9 rfl zga (ins := [_, _, _, _, _, _, _]) rfl rfl rfl rfl (.cons rfl (fun _ => rfl) (fun _ => rfl) rfl rfl <| .cons rfl (fun _ => rfl) (fun _ => rfl) rfl rfl <| .cons rfl (fun _ => rfl) (fun _ => rfl) rfl rfl <| .cons rfl (fun _ => rfl) (fun _ => rfl) rfl rfl <| .cons rfl (fun _ => rfl) (fun _ => rfl) rfl rfl <| .cons rfl (fun _ => rfl) (fun _ => rfl) rfl rfl <| .cons rfl (fun _ => rfl) (fun _ => rfl) rfl rfl rfl) ⟨rfl, rfl, rfl, rfl, rfl, rfl, rfl, trivial⟩ ?_
  refine AL.all hX zaj rfl trivial ?_
  (repeat (first | refine zae ?_ | refine zac ?_ | refine zab ?_ | refine zad ?_)); exact AWP.ret ⟨.inr rfl, zay rfl trivial rfl rfl rfl⟩
abbrev Gop := List UInt8 × Int × Unit
def opsL : List Gop := [(wOr, 9, ()), (zkt, 10, ()), (wAnd, 8, ())]
def cOps : Ctr := { args := [], pre := fun _ => [], res := .slice gop, own := none, out := fun _ => opsL }
theorem zfJ : CtrOk Tryz.prog gmH 101 cOps := by
  refine zaq (K := gmK) zaj Tryz.func101 rfl rfl Tryz.call101 rfl (by decide) (by intro h; cases h) ?_
  rintro w0 X hX _ hp
  change AWP _ _ _ _ _ ⟨[], [], 0⟩ _
  (repeat (first | refine zae ?_ | refine zac ?_ | refine zak ?_ | refine zad ?_ | refine zab ?_ | refine zaa hX zaj rfl trivial ?_ | refine zaa hX zaj rfl id ?_ | refine zaa hX zaj rfl ⟨id, id⟩ ?_))
  refine AWP.frz hX 0 ?_
  exact AWP.ret ⟨.inr rfl, zay rfl trivial rfl rfl rfl⟩
@[reducible] def trX (s : List UInt8) (l : List Nd) (r : Tr × GSt) : Int × PsT := (((l.length + r.1.size : Nat) : Int) - 1, psX s r.2 (l ++ r.1.flat l.length))
def few (x : PsT) : Prop := ((x.2.2.1.length : Nat) : Int) ≤ x.2.2.2.1
@[reducible] def cBin (k : Nat) : HCtr := hP [i64] i64 (fun x xs => [0 ≤ xs.1, xs.1 ≤ 3, few x, meas x.1 (.bin xs.1.toNat) (stOf x) < k]) fun x xs => toX (trX x.1 x.2.2.1) (prsT x.1 (.bin xs.1.toNat) (stOf x))
@[reducible] def zjx (k : Nat) : HCtr := hP [] i64 (fun x _ => [few x, meas x.1 .chain (stOf x) < k]) fun x _ => toX (trX x.1 x.2.2.1) (prsT x.1 .chain (stOf x))
@[reducible] def zih (k : Nat) : HCtr := hP [] i64 (fun x _ => [few x, meas x.1 .prim (stOf x) < k]) fun x _ => toX (trX x.1 x.2.2.1) (prsT x.1 .prim (stOf x))
def gBeh (s : List UInt8) (st : GSt) : GE (Nd × Tr × GSt) := gSuf s st .behind >>= fun p => prsT s .prim p.2 >>= fun u => .ok (p.1, u.1, u.2)
def setR (n : Nd) (r : Int) : Nd := (n.1, n.2.1, n.2.2.1, r, n.2.2.2.2)
@[reducible] def cBeh (k : Nat) : HCtr := hP [] nd (fun x _ => [few x, meas x.1 .prim (stOf x) < k]) fun x _ => toX (fun r => (setR r.1 (((x.2.2.1.length + r.2.1.size : Nat) : Int) - 1), psX x.1 r.2.2 (x.2.2.1 ++ r.2.1.flat x.2.2.1.length))) (gBeh x.1 (stOf x))
def kBi : Kn := { gmK with C := [(101, cOps)] }
theorem za8 : KnOk Tryz.prog gmH kBi := zaj.with (.cons zfJ .nil)
def hBi (k : Nat) : List (FuncId × HCtr) := [(80, cBin k), (133, zjx k), (134, cIs), (135, zjy), (136, cAdd)]
theorem zqv {i : Nat} (h : i < 3) : opsL.getD ((i : Int)).toNat ([], 0, ()) = (opW i, opK i, ()) := by
  rw [Int.toNat_natCast]
  rcases (show i = 0 ∨ i = 1 ∨ i = 2 by omega) with rfl | rfl | rfl <;> rfl
theorem zrr {te : TypeId} {t : Ty} {x y : List t.T} (h : x = y) : some (OObj.buf te t x) = some (OObj.buf te t y) := by rw [h]
theorem zoa (k : Nat) (hB : zaA Tryz.prog gmH 80 (cBin k)) (hC : zaA Tryz.prog gmH 133 (zjx k)) : zaA Tryz.prog gmH 80 (cBin (k + 1)) := by
  have hbi : HsOk Tryz.prog gmH (hBi k) := .cons hB <| .cons hC <| .cons zpb <| .cons zim <| .cons zoe .nil
  refine zar (K := _) za8 Tryz.func80 rfl rfl za6 Tryz.call80 rfl (Nat.le_of_ble_eq_true rfl) zaN ?_
  rintro w0 ⟨G, O, K, fix, D, ρ, B⟩ ty hX hG hK hρ hD hinv ⟨(s : List UInt8), (t : TokT), (l : List Nd), (b : Int), ⟨⟩⟩ ⟨(j : Int), ⟨⟩⟩ hp
  obtain rfl : G = gmH := hG
  obtain rfl : K = 1 := hK
  obtain rfl : ρ = none := hρ
  obtain rfl : D = [] := hD
  have hI := zaD (ty := ty) (ty' := ty) hX rfl hinv
  obtain ⟨hok, hj0, hj1, hfew, hme⟩ : pOk (s, t, l, b, ()) ∧ 0 ≤ j ∧ j ≤ 3 ∧ few (s, t, l, b, ()) ∧ meas s (.bin j.toNat) (t, b) < k + 1 := hp
  obtain ⟨i, rfl⟩ : ∃ i : Nat, j = (i : Int) := ⟨j.toNat, by omega⟩
  rw [Int.toNat_natCast] at hme
  have hg : GOk s (t, b) := hok.1
  change AWP _ _ _ _ _ ⟨[(0, pSelf), (1, ⟨i64, (i : Int)⟩)], pE ty s (t, b) l, 2⟩ (pQ _ (cBin (k + 1)) ty (toX (trX s l) (prsT s (.bin ((i : Int)).toNat) (t, b))))
  rw [Int.toNat_natCast]
  (repeat (first | refine zae ?_ | refine zac ?_ | refine zab ?_ | refine zad ?_)); refine zaa hX za8 rfl ?_ ?_
  · trivial
  (repeat (first | refine zae ?_ | refine zac ?_ | refine zab ?_ | refine zad ?_)); refine zaa hX za8 rfl ?_ ?_
  · trivial
  (repeat (first | refine zae ?_ | refine zac ?_ | refine zab ?_ | refine zad ?_)); refine zaa hX za8 rfl ?_ ?_
  · trivial
  refine zai rfl (fun hb => ?_) (fun hb => ?_)
  · have hb : decide ((i : Int) = ((3 : Nat) : Int)) = true := hb
    have hb := of_decide_eq_true hb
    obtain rfl : i = 3 := by omega
    rw [zgn hg (Nat.le_refl 3)]
    have hmc : meas s .chain (t, b) < k := by simp only [meas, mdF] at hme ⊢; omega
    (repeat (first | refine zae ?_ | refine zac ?_ | refine zab ?_ | refine zad ?_)); refine zah ?_
    refine zax 1 hX za8 hbi rfl trivial rfl rfl ⟨hok, hfew, hmc⟩ hI (e := prsT s .chain (t, b)) rfl (fun er h => ?_) (fun a h => ?_)
    · rw [h]
      exact rfl
    rw [h]
    refine AL.all hX za8 rfl trivial ?_
    exact AWP.ret ⟨.inr rfl, ⟨_, rfl, nd, 1, _, rfl, rfl, rfl⟩, zay rfl trivial rfl rfl rfl⟩
  have hb : decide ((i : Int) = ((3 : Nat) : Int)) = false := hb
  have hi3 : i < 3 := by
    have := of_decide_eq_false hb
    omega
  refine zac ?_
  rw [zfX hg (by omega)]
  have hq : inR .i64 ((i : Int) + 1) := zat (by omega) (by omega)
  have htn : ((i : Int) + 1).toNat = i + 1 := by omega
  have hm1 : meas s (.bin ((i : Int) + 1).toNat) (t, b) < k := by
    rw [htn]
    simp only [meas, mdF] at hme ⊢
    omega
  (repeat (first | refine zae ?_ | refine zac ?_ | refine zab ?_ | refine zad ?_)); refine zah ?_
  refine zax 3 hX za8 hbi rfl hq rfl rfl ⟨hok, (by omega : (0 : Int) ≤ (i : Int) + 1), (by omega : (i : Int) + 1 ≤ 3), hfew, hm1⟩ hI (f := trX s l) (e := prsT s (.bin (i + 1)) (t, b)) (congrArg (fun i => toX (trX s l) (prsT s (.bin i) (t, b))) htn) (fun er h => ?_) (fun a h => ?_)
  · rw [zal h]
    exact rfl
  rw [zao h]
  obtain ⟨t1, st1⟩ := a
  refine AL.all hX za8 rfl trivial ?_
  have hc1 : Onw s (t, b) st1 := zcT hg h
  have hz1 : st1.2 = b + (t1.size : Int) := zhW h
  have hsl : s.length ≤ 100000 := hok.2
  have hfew : ((l.length : Nat) : Int) ≤ b := hfew
  refine zae ?_
  refine zab ?_
  refine AWP.loop (ι := Tr × GSt) (fun i' => ⟨[(0, pSelf), (1, ⟨i64, (i : Int)⟩), (5, ⟨.slice gop, opsL⟩), (6, ⟨i64, (((l.length + i'.1.size : Nat) : Int) - 1)⟩)], pE ty s i'.2 (l ++ i'.1.flat l.length), 2⟩) (fun i' => prsT s (.binL i t1) st1 = prsT s (.binL i i'.1) i'.2 ∧ Onw s (t, b) i'.2 ∧ i'.2.2 = b + (i'.1.size : Int)) (fun i' => rem s i'.2) (t1, st1) ⟨rfl, hc1, hz1⟩ ⟨⟨rfl, rfl, rfl, rfl, trivial⟩, ⟨rfl, rfl, trivial⟩, rfl, rfl⟩ ?_
  rintro ⟨t2, st⟩ ⟨heq, hon, hsz⟩
  have heq : prsT s (.binL i t1) st1 = prsT s (.binL i t2) st := heq
  have hsz : st.2 = b + (t2.size : Int) := hsz
  have hon : Onw s (t, b) st := hon
  have hst : GOk s st := hon.1
  have hst2 : pOk (s, st.1, l ++ t2.flat l.length, st.2, ()) := ⟨hst, hsl⟩
  have hgo : (i : Int) < ((opsL.length : Nat) : Int) := by show (i : Int) < ((3 : Nat) : Int); omega
  have hgo0 : (0 : Int) ≤ (i : Int) := by omega
  rw [heq]
  refine zae ?_
  refine zae ?_
  refine zah ?_
  refine AL.own 6 hX za8 hbi rfl ⟨hgo0, hgo⟩ rfl rfl hst2 hI ?_
  refine AL.nil ?_
  have hat := zqv hi3
  have hw1 : (opsL.getD ((i : Int)).toNat ([], 0, ())).1 = opW i := by rw [hat]
  have hk1 : (opsL.getD ((i : Int)).toNat ([], 0, ())).2.1 = opK i := by rw [hat]
  refine zai rfl (fun hb => ?_) (fun hb => ?_)
  · have hb : gIs st (opsL.getD ((i : Int)).toNat ([], 0, ())).1 = true := hb
    rw [hw1] at hb
    refine zac ?_
    rw [zhq hst hb] at heq ⊢
    refine zan (σ' := ⟨[(0, pSelf), (1, ⟨i64, (i : Int)⟩), (5, ⟨.slice gop, opsL⟩), (6, ⟨i64, (((l.length + t2.size : Nat) : Int) - 1)⟩)], pE ty s st (l ++ t2.flat l.length), 2⟩) ⟨⟨rfl, rfl, rfl, rfl, trivial⟩, ⟨rfl, rfl, trivial⟩, rfl, rfl⟩ ?_
    refine zab ?_
    (repeat (first | refine zae ?_ | refine zac ?_ | refine zab ?_ | refine zad ?_)); refine zah ?_
    refine zax 1 hX za8 hbi rfl trivial rfl rfl hst2 hI (e := zbH s st) rfl (fun er h => ?_) (fun st3 h3 => ?_)
    · rw [zal h]
      exact rfl
    rw [zao h3]
    have hc3 := za7 hst (zda hb) h3
    have hz3 := zcO h3
    have hfl := t2.len_flat l.length
    have hst3 : pOk (s, st3.1, l ++ t2.flat l.length, st3.2, ()) := ⟨hc3.1, hsl⟩
    have hfew3 : few (s, st3.1, l ++ t2.flat l.length, st3.2, ()) := by
      show (((l ++ t2.flat l.length).length : Nat) : Int) ≤ st3.2
      rw [List.length_append]
      omega
    have hr1 := hon.rem hg
    have hr2 := hc3.rem hst
    have hm3 : meas s (.bin ((i : Int) + 1).toNat) st3 < k := by
      rw [htn]
      simp only [meas, mdF] at hme ⊢
      omega
    refine AL.nil ?_
    refine zan (σ' := ⟨[(0, pSelf), (1, ⟨i64, (i : Int)⟩), (5, ⟨.slice gop, opsL⟩), (6, ⟨i64, (((l.length + t2.size : Nat) : Int) - 1)⟩)], pE ty s st3 (l ++ t2.flat l.length), 2⟩) ⟨⟨rfl, rfl, rfl, rfl, trivial⟩, ⟨rfl, rfl, trivial⟩, rfl, rfl⟩ ?_
    (repeat (first | refine zae ?_ | refine zac ?_ | refine zab ?_ | refine zad ?_)); refine zah ?_
    refine zax 3 hX za8 hbi rfl hq rfl rfl ⟨hst3, (by omega : (0 : Int) ≤ (i : Int) + 1), (by omega : (i : Int) + 1 ≤ 3), hfew3, hm3⟩ hI (f := trX s (l ++ t2.flat l.length)) (e := prsT s (.bin (i + 1)) st3) (congrArg (fun i => toX (trX s (l ++ t2.flat l.length)) (prsT s (.bin i) st3)) htn) (fun er h => ?_) (fun a h4 => ?_)
    · rw [zal h]
      exact rfl
    rw [zao h4]
    obtain ⟨u, st4⟩ := a
    have hc4 : Onw s st3 st4 := zcT hc3.1 h4
    have hz4 : st4.2 = st3.2 + (u.size : Int) := zhW h4
    have hst4 : pOk (s, st4.1, l ++ t2.flat l.length ++ u.flat (l.length + t2.size), st4.2, ()) := ⟨hc4.1, hsl⟩
    have hlen1 : (l ++ t2.flat l.length).length = l.length + t2.size := by rw [List.length_append, hfl]
    have hlen2 : (l ++ t2.flat l.length ++ u.flat (l.length + t2.size)).length = l.length + t2.size + u.size := by rw [List.length_append, hlen1, u.len_flat]
    refine AL.all hX za8 rfl trivial ?_
    refine zan (σ' := ⟨[(0, pSelf), (1, ⟨i64, (i : Int)⟩), (5, ⟨.slice gop, opsL⟩), (6, ⟨i64, (((l.length + t2.size : Nat) : Int) - 1)⟩), (7, ⟨i64, (((l.length + t2.size + u.size : Nat) : Int) - 1)⟩)], pE ty s st4 (l ++ t2.flat l.length ++ u.flat (l.length + t2.size)), 2⟩) ⟨⟨rfl, rfl, rfl, rfl, vI64 ?_, trivial⟩, ⟨rfl, zrr ?_, trivial⟩, rfl, rfl⟩ ?_
    · show ((((l ++ t2.flat l.length).length + u.size : Nat) : Int) - 1) = _
      rw [hlen1]
    · show l ++ t2.flat l.length ++ u.flat (l ++ t2.flat l.length).length = _
      rw [hlen1]
    have hg4 := hc4.1.2.2
    have hadd : (l ++ t2.flat l.length ++ u.flat (l.length + t2.size)).length ≤ 100000 := by
      rw [hlen2]
      omega
    (repeat (first | refine zae ?_ | refine zac ?_ | refine zab ?_ | refine zad ?_)); refine zah ?_
    refine AL.own 9 hX za8 hbi rfl ⟨hgo0, hgo⟩ rfl rfl ⟨hst4, hadd⟩ hI ?_
    refine AL.all hX za8 rfl trivial ?_
    refine ⟨(.bin (opK i, zNd.2) t2 u, st4), ⟨?_, ?_, ?_⟩, ?_, ⟨rfl, rfl, rfl, vI64 ?_, trivial⟩, ⟨rfl, zrr ?_, trivial⟩, rfl, rfl⟩
    · rw [h3]
      show (prsT s (.bin (i + 1)) st3 >>= _) = _
      rw [h4]
      rfl
    · exact (hon.trans hc3).trans hc4
    · show st4.2 = b + ((t2.size + u.size + 1 : Nat) : Int)
      omega
    · have hr4 := hc4.rem hc3.1
      show rem s st4 < rem s st
      omega
    · show (((l ++ t2.flat l.length ++ u.flat (l.length + t2.size)).length : Nat) : Int) = ((l.length + (t2.size + u.size + 1) : Nat) : Int) - 1
      rw [hlen2]
      omega
    · show l ++ t2.flat l.length ++ u.flat (l.length + t2.size) ++ [((opsL.getD ((i : Int)).toNat ([], 0, ())).2.1, (0 : Int), (((l.length + t2.size : Nat) : Int) - 1), (((l.length + t2.size + u.size : Nat) : Int) - 1), (0 : Int), (0 : Int), ([] : List Int), ([] : List UInt8), ())] = l ++ (t2.flat l.length ++ u.flat (l.length + t2.size) ++ [zfQ (opK i, zNd.2) (((l.length + t2.size : Nat) : Int) - 1) (((l.length + t2.size + u.size : Nat) : Int) - 1)])
      rw [hk1, <- List.append_assoc, <- List.append_assoc]
      rfl
  · have hb : gIs st (opsL.getD ((i : Int)).toNat ([], 0, ())).1 = false := hb
    rw [hw1] at hb
    rw [zhr hst hb]
    refine zad ?_
    (repeat (first | refine zae ?_ | refine zac ?_ | refine zak ?_ | refine zad ?_ | refine zab ?_ | refine zaa hX za8 rfl trivial ?_ | refine zaa hX za8 rfl id ?_ | refine zaa hX za8 rfl ⟨id, id⟩ ?_))
    exact AWP.ret ⟨.inr rfl, ⟨_, rfl, nd, 1, _, rfl, rfl, rfl⟩, zay rfl trivial rfl rfl rfl⟩
def hBe (k : Nat) : List (FuncId × HCtr) := [(202, zfu), (88, zfv), (178, zih k)]
theorem beh_ok (k : Nat) (hP : zaA Tryz.prog gmH 178 (zih k)) : zaA Tryz.prog gmH 211 (cBeh k) := by
  have hbe : HsOk Tryz.prog gmH (hBe k) := .cons zeN <| .cons ze0 <| .cons hP .nil
  refine zar (K := _) zaj Tryz.func211 rfl rfl za6 Tryz.call211 rfl (Nat.le_of_ble_eq_true rfl) zaN ?_
  rintro w0 ⟨G, O, K, fix, D, ρ, B⟩ ty hX hG hK hρ hD hinv ⟨(s : List UInt8), (t : TokT), (l : List Nd), (b : Int), ⟨⟩⟩ ⟨⟩ hp
  obtain rfl : G = gmH := hG
  obtain rfl : K = 1 := hK
  obtain rfl : ρ = none := hρ
  obtain rfl : D = [] := hD
  have hI := zaD (ty := ty) (ty' := ty) hX rfl hinv
  obtain ⟨hok, hfew, hme⟩ : pOk (s, t, l, b, ()) ∧ few (s, t, l, b, ()) ∧ meas s .prim (t, b) < k := hp
  have hg : GOk s (t, b) := hok.1
  have hsl : s.length ≤ 100000 := hok.2
  have hfew : ((l.length : Nat) : Int) ≤ b := hfew
  change AWP _ _ _ _ _ ⟨[(0, pSelf)], pE ty s (t, b) l, 2⟩ (pQ _ (cBeh k) ty (toX (fun r => (setR r.1 (((l.length + r.2.1.size : Nat) : Int) - 1), psX s r.2.2 (l ++ r.2.1.flat l.length))) (gBeh s (t, b))))
  obtain ⟨R, hR⟩ : ∃ R, R = gBeh s (t, b) := ⟨_, rfl⟩
  rw [<- hR]
  rw [show gBeh s (t, b) = (zaI s (t, b) 1 400 >>= fun p => zaQ s p.2 wOf >>= fun st => prsT s .prim st >>= fun u => .ok ((17, 0, 0, 0, p.1, 0, [], [], ()), u.1, u.2)) by
    unfold gBeh gSuf
    cases zaI s (t, b) 1 400 with
    | error e => rfl
    | ok p =>
      show ((zaQ s p.2 wOf >>= _) >>= _) = (zaQ s p.2 wOf >>= _)
      cases zaQ s p.2 wOf <;> rfl] at hR
  (repeat (first | refine zae ?_ | refine zac ?_ | refine zab ?_ | refine zad ?_)); refine zaa hX zaj rfl ?_ ?_
  · trivial
  (repeat (first | refine zae ?_ | refine zac ?_ | refine zab ?_ | refine zad ?_)); refine zah ?_
  refine zax 1 hX zaj hbe rfl trivial rfl rfl hok hI (e := zaI s (t, b) 1 400) rfl (fun er h => ?_) (fun p h1 => ?_)
  · rw [show R = .error er by rw [hR, h]; rfl]
    exact rfl
  obtain ⟨x, st1⟩ := p
  rw [h1] at hR
  have hc1 := (zap hg h1).1
  have hst1 : pOk (s, st1.1, l, st1.2, ()) := ⟨hc1.1, hsl⟩
  refine AL.all hX zaj rfl trivial ?_
  refine zan (σ' := ⟨[(0, pSelf), (2, ⟨.optr nd, ⟨2, nd, .here⟩⟩), (3, ⟨.optr nd, ⟨3, nd, .here⟩⟩)], [(0, some (pBox ty s st1)), (1, some (.buf 73 nd l)), (2, some (.box nd zNd)), (3, some (.box nd (17, 0, 0, 0, x, 0, [], [], ())))], 4⟩) ⟨⟨rfl, rfl, rfl, trivial⟩, ⟨rfl, rfl, rfl, rfl, trivial⟩, rfl, rfl⟩ ?_
  (repeat (first | refine zae ?_ | refine zac ?_ | refine zab ?_ | refine zad ?_)); refine zah ?_
  refine zax 1 hX zaj hbe rfl trivial rfl rfl hst1 hI (e := zaQ s st1 wOf) rfl (fun er h => ?_) (fun st2 h2 => ?_)
  · rw [show R = .error er by rw [hR]; show (zaQ s st1 wOf >>= _) = _; rw [h]; rfl]
    exact rfl
  have hc2 := za9 hc1.1 h2
  have hst2 : pOk (s, st2.1, l, st2.2, ()) := ⟨hc2.1, hsl⟩
  refine AL.nil ?_
  refine zan (σ' := ⟨[(0, pSelf), (2, ⟨.optr nd, ⟨2, nd, .here⟩⟩), (3, ⟨.optr nd, ⟨3, nd, .here⟩⟩)], [(0, some (pBox ty s st2)), (1, some (.buf 73 nd l)), (2, some (.box nd zNd)), (3, some (.box nd (17, 0, 0, 0, x, 0, [], [], ())))], 4⟩) ⟨⟨rfl, rfl, rfl, trivial⟩, ⟨rfl, rfl, rfl, rfl, trivial⟩, rfl, rfl⟩ ?_
  have hr1 := hc1.rem hg
  have hr2 := hc2.rem hc1.1
  have hm2 : meas s .prim st2 < k := by
    simp only [meas, mdF] at hme ⊢
    omega
  have hz1 := zbk h1
  have hz2 := zdj h2
  have hfew2 : few (s, st2.1, l, st2.2, ()) := by
    show ((l.length : Nat) : Int) ≤ st2.2
    rw [hz2, hz1]
    exact hfew
  (repeat (first | refine zae ?_ | refine zac ?_ | refine zab ?_ | refine zad ?_)); refine zah ?_
  refine zax 1 hX zaj hbe rfl trivial rfl rfl ⟨hst2, hfew2, hm2⟩ hI (e := prsT s .prim st2) rfl (fun er h => ?_) (fun p h3 => ?_)
  · rw [show R = .error er by rw [hR]; show (zaQ s st1 wOf >>= _) = _; rw [h2]; show (prsT s .prim st2 >>= _) = _; rw [h]; rfl]
    exact rfl
  obtain ⟨u, st3⟩ := p
  rw [show R = .ok ((17, 0, 0, 0, x, 0, [], [], ()), u, st3) by rw [hR]; show (zaQ s st1 wOf >>= _) = _; rw [h2]; show (prsT s .prim st2 >>= _) = _; rw [h3]; rfl]
  refine AL.all hX zaj rfl trivial ?_
  (repeat (first | refine zae ?_ | refine zac ?_ | refine zak ?_ | refine zad ?_ | refine zab ?_ | refine zaa hX zaj rfl trivial ?_ | refine zaa hX zaj rfl id ?_ | refine zaa hX zaj rfl ⟨id, id⟩ ?_))
  exact AWP.ret ⟨.inr rfl, ⟨_, rfl, nd, 1, _, rfl, rfl, rfl⟩, zay rfl trivial rfl rfl rfl⟩
def kCh : Kn := { gmK with C := [(179, zju)] }
theorem zb2 : KnOk Tryz.prog gmH kCh := zaj.with (.cons zjK .nil)
def hCh (k : Nat) : List (FuncId × HCtr) := [(178, zih k), (135, zjy), (136, cAdd)]
theorem zql {w : SufW} (hw : w ≠ .behind) : ∃ f, zd9 w = .func (.func f) #[] #[] ∧ zaA Tryz.prog gmH f (zft w) := by
  cases w with
  | shift => exact ⟨_, rfl, znO⟩
  | from_ => exact ⟨_, rfl, zpm⟩
  | until_ => exact ⟨_, rfl, znN⟩
  | also => exact ⟨_, rfl, zpo⟩
  | except_ => exact ⟨_, rfl, zl4⟩
  | pos => exact ⟨_, rfl, zra⟩
  | behind => exact absurd rfl hw
deriving instance DecidableEq for SufW
def zia (s : List UInt8) (st : GSt) (len : Nat) (w : SufW) : GE (Nd × List Nd × (Tr -> Tr) × GSt) :=
  if w = .behind then gBeh s st >>= fun r => .ok (setR r.1 (((len + r.2.1.size : Nat) : Int) - 1), r.2.1.flat len, fun t => .bin r.1 t r.2.1, r.2.2)
  else gSuf s st w >>= fun p => .ok (p.1, [], fun t => .un p.1 t, p.2)
theorem zmn {s : List UInt8} {t : Tr} {st : GSt} (len : Nat) : ∀ w : SufW, sufT (s := s) t st w = (zia s st len w >>= fun r => .ok (r.2.2.1 t, r.2.2.2))
  | .behind => by
    unfold sufT zia gBeh
    rw [if_pos rfl]
    cases gSuf s st .behind with
    | error e => rfl
    | ok p =>
      show (prsT s .prim p.2 >>= _) = (((prsT s .prim p.2 >>= _) >>= _) >>= _)
      cases prsT s .prim p.2 <;> rfl
  | .shift | .from_ | .until_ | .also | .except_ | .pos => by
    unfold sufT zia
    rw [if_neg (by intro h; cases h)]
    simp only []
    cases gSuf s st _ <;> rfl
theorem zph {s : List UInt8} {st : GSt} {len : Nat} {w : SufW} {r : Nd × List Nd × (Tr -> Tr) × GSt} (h : GOk s st) (he : zia s st len w = .ok r) : Onw s st r.2.2.2 ∧ r.2.2.2.2 = st.2 + (r.2.1.length : Int) ∧ ∀ t : Tr, (r.2.2.1 t).size = t.size + r.2.1.length + 1 ∧ ∀ b, len = b + t.size -> (r.2.2.1 t).flat b = t.flat b ++ r.2.1 ++ [setL r.1 (((b + t.size : Nat) : Int) - 1)] := by
  unfold zia at he
  split at he
  · obtain ⟨⟨n, u, st'⟩, h1, h2⟩ := zam he
    cases h2
    obtain ⟨⟨n', st1⟩, h3, h4⟩ := zam h1
    obtain ⟨⟨u', st2⟩, h5, h6⟩ := zam h4
    cases h6
    have k1 := zdN h _ h3
    have k2 : Onw s st1 st2 := zcT k1.1 h5
    have k3 := zkZ _ h3
    have k4 : st2.2 = st1.2 + (u'.size : Int) := zhW h5
    refine ⟨k1.trans k2, ?_, fun t => ⟨?_, fun b hb => ?_⟩⟩
    · show st2.2 = st.2 + (((u'.flat len).length : Nat) : Int)
      rw [u'.len_flat]
      omega
    · show t.size + u'.size + 1 = t.size + (u'.flat len).length + 1
      rw [u'.len_flat]
    · subst hb
      rfl
  · obtain ⟨⟨n, st'⟩, h1, h2⟩ := zam he
    cases h2
    refine ⟨zdN h _ h1, ?_, fun t => ⟨rfl, fun b hb => ?_⟩⟩
    · show st'.2 = st.2 + 0
      rw [zkZ _ h1]
      omega
    · show t.flat b ++ [_] = t.flat b ++ [] ++ [_]
      rw [List.append_nil]
@[reducible] def cSufK (w : SufW) (k : Nat) : HCtr := hP [] nd (fun x _ => [few x, meas x.1 .prim (stOf x) < k]) fun x _ => toX (fun r => (r.1, psX x.1 r.2.2.2 (x.2.2.1 ++ r.2.1))) (zia x.1 (stOf x) x.2.2.1.length w)
theorem zoo {args : List Ty} {x : PsT} {xs : Args args} {pre pre' : PsT -> Args args -> List Prop} (hp : ∀ x xs, allP (pre' x xs) -> allP (pre x xs)) (h7 : allP (pOk x :: pre' x xs)) : allP (pOk x :: pre x xs) := by
  have h8 : pOk x ∧ allP (pre' x xs) := by
    cases hq : pre' x xs with
    | nil => rw [hq] at h7; exact ⟨h7, trivial⟩
    | cons a l => rw [hq] at h7; exact h7
  have h9 := hp x xs h8.2
  cases hr : pre x xs with
  | nil => exact h8.1
  | cons a l => rw [hr] at h9; exact ⟨h8.1, h9⟩
theorem zje {P : Program} {G : World -> Prop} {f : FuncId} {args : List Ty} {res : Ty} {pre pre' : PsT -> Args args -> List Prop} {out out' : PsT -> Args args -> Except Value (res.T × PsT)} (h : zaA P G f (hP args res pre out)) (hp : ∀ x xs, allP (pre' x xs) -> allP (pre x xs)) (ho : ∀ x xs, out' x xs = out x xs) : zaA P G f (hP args res pre' out') := by
  obtain rfl : out' = out := funext fun x => funext fun xs => ho x xs
  refine ⟨h.1, h.2.1, fun w O g cs ty x xs vs b h1 h2 h3 h4 h5 h6 h7 h8 h9 => ?_⟩
  refine (h.2.2 w O g cs ty x xs vs b h1 h2 h3 h4 h5 h6 ?_ h8 h9).mono fun e w' hr => ⟨hr.1, ?_⟩
  · exact zoo hp h7
  · have hr := hr.2
    revert hr
    show HEnd (hP args res pre out') ty w w' O g b e (out' x xs) -> HEnd (hP args res pre' out') ty w w' O g b e (out' x xs)
    cases out' x xs <;> exact id
theorem zqk (k : Nat) (hP : zaA Tryz.prog gmH 178 (zih k)) (w : SufW) : ∃ f, zd9 w = .func (.func f) #[] #[] ∧ zaA Tryz.prog gmH f (cSufK w k) := by
  by_cases hw : w = .behind
  · subst hw
    refine ⟨_, rfl, zje (beh_ok k hP) (fun x xs h => h) fun x xs => ?_⟩
    unfold zia
    rw [if_pos rfl]
    cases gBeh x.1 (stOf x) <;> rfl
  · obtain ⟨f, h1, h2⟩ := zql hw
    refine ⟨f, h1, zje h2 (fun x xs h => trivial) fun x xs => ?_⟩
    unfold zia
    rw [if_neg hw]
    cases gSuf x.1 (stOf x) w with
    | error e => rfl
    | ok p =>
      show Except.ok (p.1, psX x.1 p.2 (x.2.2.1 ++ [])) = Except.ok (p.1, psX x.1 p.2 x.2.2.1)
      rw [List.append_nil]
theorem zpv (k : Nat) (hP : zaA Tryz.prog gmH 178 (zih k)) : zaA Tryz.prog gmH 133 (zjx (k + 1)) := by
  have hch : HsOk Tryz.prog gmH (hCh k) := .cons hP <| .cons zim <| .cons zoe .nil
  refine zar (K := _) zb2 Tryz.func133 rfl rfl za6 Tryz.call133 rfl (Nat.le_of_ble_eq_true rfl) zaN ?_
  rintro w0 ⟨G, O, K, fix, D, ρ, B⟩ ty hX hG hK hρ hD hinv ⟨(s : List UInt8), (t : TokT), (l : List Nd), (b : Int), ⟨⟩⟩ ⟨⟩ hp
  obtain rfl : G = gmH := hG
  obtain rfl : K = 1 := hK
  obtain rfl : ρ = none := hρ
  obtain rfl : D = [] := hD
  have hI := zaD (ty := ty) (ty' := ty) hX rfl hinv
  obtain ⟨hok, hfew, hme⟩ : pOk (s, t, l, b, ()) ∧ few (s, t, l, b, ()) ∧ meas s .chain (t, b) < k + 1 := hp
  have hg : GOk s (t, b) := hok.1
  have hsl : s.length ≤ 100000 := hok.2
  change AWP _ _ _ _ _ ⟨[(0, pSelf)], pE ty s (t, b) l, 2⟩ (pQ _ (zjx (k + 1)) ty (toX (trX s l) (prsT s .chain (t, b))))
  rw [zhp hg]
  (repeat (first | refine zae ?_ | refine zac ?_ | refine zab ?_ | refine zad ?_)); refine zaa hX zb2 rfl ?_ ?_
  · trivial
  have hm0 : meas s .prim (t, b) < k := by simp only [meas, mdF] at hme ⊢; omega
  (repeat (first | refine zae ?_ | refine zac ?_ | refine zab ?_ | refine zad ?_)); refine zah ?_
  refine zax 1 hX zb2 hch rfl trivial rfl rfl ⟨hok, hfew, hm0⟩ hI (e := prsT s .prim (t, b)) rfl (fun er h => ?_) (fun a h => ?_)
  · rw [zal h]
    exact rfl
  rw [zao h]
  obtain ⟨t1, st1⟩ := a
  have hc1 : Onw s (t, b) st1 := zcT hg h
  have hz1 : st1.2 = b + (t1.size : Int) := zhW h
  have hfew : ((l.length : Nat) : Int) ≤ b := hfew
  refine AL.all hX zb2 rfl trivial ?_
  refine zae ?_
  refine zab ?_
  refine AWP.loop (ι := Tr × GSt) (fun i' => ⟨[(0, pSelf), (3, ⟨i64, (((l.length + i'.1.size : Nat) : Int) - 1)⟩), (4, ⟨.mapL, zga⟩)], pE ty s i'.2 (l ++ i'.1.flat l.length), 2⟩) (fun i' => prsT s (.chainL t1) st1 = prsT s (.chainL i'.1) i'.2 ∧ Onw s (t, b) i'.2 ∧ i'.2.2 = b + (i'.1.size : Int)) (fun i' => rem s i'.2) (t1, st1) ⟨rfl, hc1, hz1⟩ ⟨⟨rfl, rfl, rfl, trivial⟩, ⟨rfl, rfl, trivial⟩, rfl, rfl⟩ ?_
  rintro ⟨t2, st⟩ ⟨heq, hon, hsz⟩
  have heq : prsT s (.chainL t1) st1 = prsT s (.chainL t2) st := heq
  have hsz : st.2 = b + (t2.size : Int) := hsz
  have hon : Onw s (t, b) st := hon
  have hst : GOk s st := hon.1
  have hst2 : pOk (s, st.1, l ++ t2.flat l.length, st.2, ()) := ⟨hst, hsl⟩
  have hfl := t2.len_flat l.length
  have hlen1 : (l ++ t2.flat l.length).length = l.length + t2.size := by rw [List.length_append, hfl]
  rw [heq]
  refine zae ?_
  (repeat (first | refine zae ?_ | refine zac ?_ | refine zab ?_ | refine zad ?_)); refine zaa hX zb2 rfl ?_ ?_
  · trivial
  refine zai rfl (fun hb => ?_) (fun hb => ?_)
  rotate_left
  · have hb : (st.1.1 == 1) = false := hb
    have hb : Tok.cls st.1 ≠ 1 := fun h => by
      have : (st.1.1 == 1) = true := beq_iff_eq.2 h
      rw [this] at hb
      cases hb
    rw [zdI hst hb]
    refine zad ?_
    (repeat (first | refine zae ?_ | refine zac ?_ | refine zak ?_ | refine zad ?_ | refine zab ?_ | refine zaa hX zb2 rfl trivial ?_ | refine zaa hX zb2 rfl id ?_ | refine zaa hX zb2 rfl ⟨id, id⟩ ?_))
    exact AWP.ret ⟨.inr rfl, ⟨_, rfl, nd, 1, _, rfl, rfl, rfl⟩, zay rfl trivial rfl rfl rfl⟩
  have hb : (st.1.1 == 1) = true := hb
  have hcls : Tok.cls st.1 = 1 := beq_iff_eq.1 hb
  refine zac ?_
  refine zan (σ' := ⟨[(0, pSelf), (3, ⟨i64, (((l.length + t2.size : Nat) : Int) - 1)⟩), (4, ⟨.mapL, zga⟩)], pE ty s st (l ++ t2.flat l.length), 2⟩) ⟨⟨rfl, rfl, rfl, trivial⟩, ⟨rfl, rfl, trivial⟩, rfl, rfl⟩ ?_
  refine zab ?_
  (repeat (first | refine zae ?_ | refine zac ?_ | refine zab ?_ | refine zad ?_)); refine zah ?_
  refine AL.take 6 hX zb2 rfl trivial ?_
  refine AL.look2 Tryz.underlying204 Tryz.underlying9 rfl (key := strV (Tok.text st.1)) (z := .nilFunc) (es := zga) (r := (sufW (Tok.text st.1)).map zd9) rfl rfl rfl rfl rfl (znu rfl) Tryz.zeroValue206 (zot _) ?_
  refine AL.take 1 hX zb2 rfl trivial ?_
  refine AL.ext0 rfl rfl rfl rfl rfl ?_
  refine AL.ext1 rfl rfl rfl rfl rfl ?_
  refine AL.all hX zb2 rfl trivial ?_
  (repeat (first | refine zae ?_ | refine zac ?_ | refine zab ?_ | refine zad ?_)); refine zaa hX zb2 rfl ?_ ?_
  · trivial
  cases hw : sufW (Tok.text st.1) with
  | none =>
    rw [zfF hst hcls hw]
    refine zai rfl (fun _ => ?_) (fun hb => ?_)
    rotate_left
    · have hb : (!((none : Option SufW).map zd9).isSome) = false := hb
      cases hb
    refine zad ?_
    refine zan (σ' := ⟨[(0, pSelf), (3, ⟨i64, (((l.length + t2.size : Nat) : Int) - 1)⟩), (4, ⟨.mapL, zga⟩)], pE ty s st (l ++ t2.flat l.length), 2⟩) ⟨⟨rfl, rfl, rfl, trivial⟩, ⟨rfl, rfl, trivial⟩, rfl, rfl⟩ ?_
    (repeat (first | refine zae ?_ | refine zac ?_ | refine zak ?_ | refine zad ?_ | refine zab ?_ | refine zaa hX zb2 rfl trivial ?_ | refine zaa hX zb2 rfl id ?_ | refine zaa hX zb2 rfl ⟨id, id⟩ ?_))
    exact AWP.ret ⟨.inr rfl, ⟨_, rfl, nd, 1, _, rfl, rfl, rfl⟩, zay rfl trivial rfl rfl rfl⟩
  | some w =>
    rw [zfG hst hcls hw] at heq ⊢
    refine zai rfl (fun hb => ?_) (fun _ => ?_)
    · have hb : (!((some w : Option SufW).map zd9).isSome) = true := hb
      cases hb
    refine zac ?_
    refine zan (σ' := ⟨[(0, pSelf), (3, ⟨i64, (((l.length + t2.size : Nat) : Int) - 1)⟩), (4, ⟨.mapL, zga⟩), (5, ⟨.lit, zd9 w⟩)], pE ty s st (l ++ t2.flat l.length), 2⟩) ⟨⟨rfl, rfl, rfl, rfl, trivial⟩, ⟨rfl, rfl, trivial⟩, rfl, rfl⟩ ?_
    (repeat (first | refine zae ?_ | refine zac ?_ | refine zab ?_ | refine zad ?_)); refine zah ?_
    refine zax 1 hX zb2 hch rfl trivial rfl rfl hst2 hI (e := zbH s st) rfl (fun er h => ?_) (fun st3 h3 => ?_)
    · rw [zal h]
      exact rfl
    rw [zao h3]
    have hc3 := za7 hst (by rw [hcls]; decide) h3
    have hz3 := zcO h3
    have hst3 : pOk (s, st3.1, l ++ t2.flat l.length, st3.2, ()) := ⟨hc3.1, hsl⟩
    have hfew3 : few (s, st3.1, l ++ t2.flat l.length, st3.2, ()) := by
      show (((l ++ t2.flat l.length).length : Nat) : Int) ≤ st3.2
      rw [hlen1]
      omega
    have hr1 := hon.rem hg
    have hr2 := hc3.rem hst
    have hm3 : meas s .prim st3 < k := by
      simp only [meas, mdF] at hme ⊢
      omega
    refine AL.nil ?_
    refine zan (σ' := ⟨[(0, pSelf), (3, ⟨i64, (((l.length + t2.size : Nat) : Int) - 1)⟩), (4, ⟨.mapL, zga⟩), (5, ⟨.lit, zd9 w⟩)], pE ty s st3 (l ++ t2.flat l.length), 2⟩) ⟨⟨rfl, rfl, rfl, rfl, trivial⟩, ⟨rfl, rfl, trivial⟩, rfl, rfl⟩ ?_
    obtain ⟨f, hf, hfo⟩ := zqk k hP w
    (repeat (first | refine zae ?_ | refine zac ?_ | refine zab ?_ | refine zad ?_)); refine zah ?_
    refine AL.take 2 hX zb2 rfl trivial ?_
    refine AL.ownVM hX hfo rfl rfl rfl (by show (⟨.lit, zd9 w⟩ : V) = _; rw [hf]) rfl rfl rfl rfl rfl rfl rfl rfl trivial ⟨hst3, hfew3, hm3⟩ hI (fun _ => rfl) (e := zia s st3 (l ++ t2.flat l.length).length w) rfl (fun er h => ?_) (fun r h4 => ?_)
    · rw [zmn (l ++ t2.flat l.length).length w]
      rw [h]
      exact rfl
    rw [zmn (l ++ t2.flat l.length).length w]
    rw [h4]
    obtain ⟨n0, ex, tf, st4⟩ := r
    obtain ⟨hc4, hz4, hT⟩ := zph hc3.1 h4
    obtain ⟨hT1, hT2⟩ := hT t2
    have hT2 := hT2 l.length hlen1
    have hT1 : (tf t2).size = t2.size + ex.length + 1 := hT1
    have hT2 : (tf t2).flat l.length = t2.flat l.length ++ ex ++ [setL n0 (((l.length + t2.size : Nat) : Int) - 1)] := hT2
    have hc4 : Onw s st3 st4 := hc4
    have hz4 : st4.2 = st3.2 + (ex.length : Int) := hz4
    have hlen2 : (l ++ t2.flat l.length ++ ex).length = l.length + t2.size + ex.length := by rw [List.length_append, hlen1]
    have hst4 : pOk (s, st4.1, l ++ t2.flat l.length ++ ex, st4.2, ()) := ⟨hc4.1, hsl⟩
    refine AL.all hX zb2 rfl trivial ?_
    refine zan (σ' := ⟨[(0, pSelf), (3, ⟨i64, (((l.length + t2.size : Nat) : Int) - 1)⟩), (4, ⟨.mapL, zga⟩), (7, ⟨.optr nd, ⟨2, nd, .here⟩⟩)], [(0, some (pBox ty s st4)), (1, some (.buf 73 nd (l ++ t2.flat l.length ++ ex))), (2, some (.box nd n0))], 3⟩) ⟨⟨rfl, rfl, rfl, rfl, trivial⟩, ⟨rfl, rfl, rfl, trivial⟩, rfl, rfl⟩ ?_
    (repeat (first | refine zae ?_ | refine zac ?_ | refine zab ?_ | refine zad ?_)); refine zaa hX zb2 rfl ?_ ?_
    · trivial
    have hg4 := hc4.1.2.2
    have hadd : (l ++ t2.flat l.length ++ ex).length ≤ 100000 := by
      rw [hlen2]
      omega
    (repeat (first | refine zae ?_ | refine zac ?_ | refine zab ?_ | refine zad ?_)); refine zah ?_
    refine AL.own 2 hX zb2 hch rfl trivial rfl rfl ⟨hst4, hadd⟩ hI ?_
    refine AL.all hX zb2 rfl trivial ?_
    refine ⟨(tf t2, st4), ⟨?_, ?_, ?_⟩, ?_, ⟨rfl, vI64 ?_, rfl, trivial⟩, ⟨rfl, zrr ?_, trivial⟩, rfl, rfl⟩
    · rw [h3]
      show (sufT t2 st3 w >>= _) = _
      rw [zmn (l ++ t2.flat l.length).length w, h4]
      rfl
    · exact (hon.trans hc3).trans hc4
    · show st4.2 = b + ((tf t2).size : Int)
      rw [hT1]
      omega
    · have hr4 := hc4.rem hc3.1
      show rem s st4 < rem s st
      omega
    · show (((l ++ t2.flat l.length ++ ex).length : Nat) : Int) = ((l.length + (tf t2).size : Nat) : Int) - 1
      rw [hlen2, hT1]
      omega
    · show l ++ t2.flat l.length ++ ex ++ [setL n0 (((l.length + t2.size : Nat) : Int) - 1)] = l ++ (tf t2).flat l.length
      rw [hT2, <- List.append_assoc, <- List.append_assoc]
section
variable {s : List UInt8}
theorem zlE {st : GSt} (h : GOk s st) (ho : gIs st zez = true) : prsT s .prim st = (prsT s (.bin 0) (gAdv s st) >>= fun p => zaQ s p.2 zcI >>= fun st => .ok (p.1, st)) := by
  rw [zci h, zbf, if_pos ho]
  rfl
theorem zlF {st : GSt} (h : GOk s st) (ho : gIs st zez = false) (hc : Tok.cls st.1 = 2) : prsT s .prim st = (zaB st (decide ((Tok.text st.1).length ≤ 32)) 2 >>= fun _ => zbH s st >>= fun st' => .ok (.leaf (18, 0, 0, 0, 0, 0, [], Tok.text st.1, ()), st')) := by
  rw [zci h, zbf, if_neg (by rw [ho]; decide), if_pos hc]
  rfl
def leafT (s : List UInt8) (st : GSt) : Option LeafW -> GE (Tr × GSt)
  | none => .error (Tok.at st.1, 3)
  | some w => zbH s st >>= fun st => zcY s st w >>= fun p => .ok (.leaf p.1, p.2)
theorem zlG {st : GSt} (h : GOk s st) (ho : gIs st zez = false) (hc : Tok.cls st.1 ≠ 2) : prsT s .prim st = (zaB st (Tok.cls st.1 == 3 - 2) 3 >>= fun _ => leafT s st (zfR (Tok.text st.1))) := by
  rw [zci h, zbf, if_neg (by rw [ho]; decide), if_neg hc]
  show (zaB st (Tok.cls st.1 == 1) 3 >>= _) = (zaB st (Tok.cls st.1 == 1) 3 >>= _)
  cases zfR (Tok.text st.1) <;> rfl
end
theorem zo9 (w : LeafW) : ∃ f, zcK w = .func (.func f) #[] #[] ∧ zaA Tryz.prog gmH f (zc0 w) := by
  cases w with
  | days => exact ⟨_, rfl, zpn⟩
  | years => exact ⟨_, rfl, znL⟩
  | months => exact ⟨_, rfl, zl3⟩
  | monthdays => exact ⟨_, rfl, zic⟩
  | weekdays => exact ⟨_, rfl, zjn⟩
  | weeks => exact ⟨_, rfl, znM⟩
  | nth => exact ⟨_, rfl, zrb⟩
theorem dNat (a b : Nat) : decide (((a : Nat) : Int) ≤ ((b : Nat) : Int)) = decide (a ≤ b) := decide_eq_decide.2 Int.ofNat_le
def kPm : Kn := { gmK with C := [(200, zn5)] }
theorem zbT : KnOk Tryz.prog gmH kPm := zaj.with (.cons znn .nil)
def hPm (k : Nat) : List (FuncId × HCtr) := [(80, cBin k), (134, cIs), (87, cAdv), (88, zfv), (81, zfO), (135, zjy), (136, cAdd)]
theorem zlH (k : Nat) (hB : zaA Tryz.prog gmH 80 (cBin k)) : zaA Tryz.prog gmH 178 (zih (k + 1)) := by
  have hpm : HsOk Tryz.prog gmH (hPm k) := .cons hB <| .cons zpb <| .cons zfx <| .cons ze0 <| .cons zd8 <| .cons zim <| .cons zoe .nil
  refine zar (K := _) zbT Tryz.func178 rfl rfl za6 Tryz.call178 rfl (Nat.le_of_ble_eq_true rfl) zaN ?_
  rintro w0 ⟨G, O, K, fix, D, ρ, B⟩ ty hX hG hK hρ hD hinv ⟨(s : List UInt8), (t : TokT), (l : List Nd), (b : Int), ⟨⟩⟩ ⟨⟩ hp
  obtain rfl : G = gmH := hG
  obtain rfl : K = 1 := hK
  obtain rfl : ρ = none := hρ
  obtain rfl : D = [] := hD
  have hI := zaD (ty := ty) (ty' := ty) hX rfl hinv
  obtain ⟨hok, hfew, hme⟩ : pOk (s, t, l, b, ()) ∧ few (s, t, l, b, ()) ∧ meas s .prim (t, b) < k + 1 := hp
  have hg : GOk s (t, b) := hok.1
  have hsl : s.length ≤ 100000 := hok.2
  have hfew : ((l.length : Nat) : Int) ≤ b := hfew
  change AWP _ _ _ _ _ ⟨[(0, pSelf)], pE ty s (t, b) l, 2⟩ (pQ _ (zih (k + 1)) ty (toX (trX s l) (prsT s .prim (t, b))))
  (repeat (first | refine zae ?_ | refine zac ?_ | refine zab ?_ | refine zad ?_)); refine zaa hX zbT rfl ?_ ?_
  · trivial
  (repeat (first | refine zae ?_ | refine zac ?_ | refine zab ?_ | refine zad ?_)); refine zah ?_
  refine AL.own 1 hX zbT hpm rfl trivial rfl rfl hok hI ?_
  refine AL.nil ?_
  refine zai rfl (fun hb => ?_) (fun hb => ?_)
  · have hb : gIs (t, b) zez = true := hb
    rw [zlE hg hb]
    have hc1 := zbV hg (zda hb)
    have hst1 : pOk (s, (gAdv s (t, b)).1, l, (gAdv s (t, b)).2, ()) := ⟨hc1.1, hsl⟩
    have hr1 := hc1.rem hg
    have hm1 : meas s (.bin ((0 : Int)).toNat) (gAdv s (t, b)) < k := by
      show meas s (.bin 0) (gAdv s (t, b)) < k
      simp only [meas, mdF] at hme ⊢
      omega
    (repeat (first | refine zae ?_ | refine zac ?_ | refine zab ?_ | refine zad ?_)); refine zah ?_
    refine AL.own 1 hX zbT hpm rfl trivial rfl rfl hok hI ?_
    refine AL.nil ?_
    (repeat (first | refine zae ?_ | refine zac ?_ | refine zab ?_ | refine zad ?_)); refine zah ?_
    refine zax 1 hX zbT hpm rfl trivial rfl rfl ⟨hst1, (by decide : (0 : Int) ≤ 0), (by decide : (0 : Int) ≤ 3), hfew, hm1⟩ hI (f := trX s l) (e := prsT s (.bin 0) (gAdv s (t, b))) rfl (fun er h => ?_) (fun a h => ?_)
    · rw [zal h]
      exact rfl
    rw [zao h]
    obtain ⟨u, st2⟩ := a
    have hc2 : Onw s (gAdv s (t, b)) st2 := zcT hc1.1 h
    have hst2 : pOk (s, st2.1, l ++ u.flat l.length, st2.2, ()) := ⟨hc2.1, hsl⟩
    refine AL.all hX zbT rfl trivial ?_
    refine zan (σ' := ⟨[(0, pSelf), (3, ⟨i64, (((l.length + u.size : Nat) : Int) - 1)⟩)], pE ty s st2 (l ++ u.flat l.length), 2⟩) ⟨⟨rfl, rfl, trivial⟩, ⟨rfl, rfl, trivial⟩, rfl, rfl⟩ ?_
    (repeat (first | refine zae ?_ | refine zac ?_ | refine zab ?_ | refine zad ?_)); refine zah ?_
    refine zax 1 hX zbT hpm rfl trivial rfl rfl hst2 hI (e := zaQ s st2 zcI) rfl (fun er h => ?_) (fun st3 h3 => ?_)
    · rw [zal h]
      exact rfl
    rw [zao h3]
    refine AL.nil ?_
    (repeat (first | refine zae ?_ | refine zac ?_ | refine zak ?_ | refine zad ?_ | refine zab ?_ | refine zaa hX zbT rfl trivial ?_ | refine zaa hX zbT rfl id ?_ | refine zaa hX zbT rfl ⟨id, id⟩ ?_))
    exact AWP.ret ⟨.inr rfl, ⟨_, rfl, nd, 1, _, rfl, rfl, rfl⟩, zay rfl trivial rfl rfl rfl⟩
  have hb : gIs (t, b) zez = false := hb
  refine zac ?_
  (repeat (first | refine zae ?_ | refine zac ?_ | refine zab ?_ | refine zad ?_)); refine zaa hX zbT rfl ?_ ?_
  · trivial
  (repeat (first | refine zae ?_ | refine zac ?_ | refine zab ?_ | refine zad ?_)); refine zaa hX zbT rfl ?_ ?_
  · trivial
  refine zan (σ' := ⟨[(0, pSelf), (4, ⟨.optr tk, ⟨2, tk, .here⟩⟩), (22, ⟨.bool, Tok.cls t == 2⟩)], [(0, some (pBox ty s (t, b))), (1, some (.buf 73 nd l)), (2, some (.box tk t))], 3⟩) ⟨⟨rfl, rfl, zcS rfl, trivial⟩, ⟨rfl, rfl, rfl, trivial⟩, rfl, rfl⟩ ?_
  refine zai rfl (fun hc => ?_) (fun hc => ?_)
  · have hc : Tok.cls t = 2 := beq_iff_eq.1 hc
    rw [zlF hg hb hc]
    have hls : (Tok.text t).length ≤ 100000 := by
      have := hg.1.2.2.2.2.1
      have this : (Tok.text t).length ≤ s.length := this
      omega
    (repeat (first | refine zae ?_ | refine zac ?_ | refine zab ?_ | refine zad ?_)); refine zah ?_
    refine zax 5 hX zbT hpm rfl trivial rfl rfl hok hI (e := zaB (t, b) (decide ((Tok.text t).length ≤ 32)) 2) (congrArg (fun c => toX (fun _ => ((), (s, t, l, b, ()))) (zaB (t, b) c 2)) (dNat (Tok.text t).length 32)) (fun er h => ?_) (fun a h => ?_)
    · rw [zal h]
      exact rfl
    rw [zao h]
    refine AL.nil ?_
    refine zan (σ' := ⟨[(0, pSelf), (4, ⟨.optr tk, ⟨2, tk, .here⟩⟩)], [(0, some (pBox ty s (t, b))), (1, some (.buf 73 nd l)), (2, some (.box tk t))], 3⟩) ⟨⟨rfl, rfl, trivial⟩, ⟨rfl, rfl, rfl, trivial⟩, rfl, rfl⟩ ?_
    (repeat (first | refine zae ?_ | refine zac ?_ | refine zab ?_ | refine zad ?_)); refine zah ?_
    refine zax 1 hX zbT hpm rfl trivial rfl rfl hok hI (e := zbH s (t, b)) rfl (fun er h => ?_) (fun st1 h1 => ?_)
    · rw [zal h]
      exact rfl
    rw [zao h1]
    have hc1 := za7 hg (by show Tok.cls t ≠ 0; rw [hc]; decide) h1
    have hg1 := hc1.1.2.2
    have hz1 := zcO h1
    have hz1 : st1.2 = b + 1 := hz1
    have hst1 : pOk (s, st1.1, l, st1.2, ()) := ⟨hc1.1, hsl⟩
    have hadd : l.length ≤ 100000 := by omega
    refine AL.nil ?_
    refine zan (σ' := ⟨[(0, pSelf), (4, ⟨.optr tk, ⟨2, tk, .here⟩⟩)], [(0, some (pBox ty s st1)), (1, some (.buf 73 nd l)), (2, some (.box tk t))], 3⟩) ⟨⟨rfl, rfl, trivial⟩, ⟨rfl, rfl, rfl, trivial⟩, rfl, rfl⟩ ?_
    (repeat (first | refine zae ?_ | refine zac ?_ | refine zab ?_ | refine zad ?_)); refine zah ?_
    refine AL.own 4 hX zbT hpm rfl trivial rfl rfl ⟨hst1, hadd⟩ hI ?_
    refine AL.all hX zbT rfl trivial ?_
    refine AWP.ret ⟨.inr rfl, ⟨_, rfl, nd, 1, _, rfl, rfl, rfl⟩, zay rfl trivial rfl rfl ?_⟩
    show ((l.length : Nat) : Int) = ((l.length + 1 : Nat) : Int) - 1
    omega
  · have hc : Tok.cls t ≠ 2 := fun h => by
      have h2 : (Tok.cls t == 2) = true := beq_iff_eq.2 h
      have hc : (Tok.cls t == 2) = false := hc
      rw [h2] at hc
      cases hc
    rw [zlG hg hb hc]
    refine zac ?_
    refine zan (σ' := ⟨[(0, pSelf)], pE ty s (t, b) l, 2⟩) ⟨⟨rfl, trivial⟩, ⟨rfl, rfl, trivial⟩, rfl, rfl⟩ ?_
    (repeat (first | refine zae ?_ | refine zac ?_ | refine zab ?_ | refine zad ?_)); refine zah ?_
    refine zax 7 hX zbT hpm rfl trivial rfl rfl hok hI (e := zaB (t, b) (Tok.cls t == 1) 3) rfl (fun er h => ?_) (fun a h => ?_)
    · rw [zal (by exact h)]
      exact rfl
    rw [zao (by exact h)]
    have hcls : Tok.cls t = 1 := beq_iff_eq.1 (zbl h)
    refine AL.nil ?_
    refine AWP.via (σ' := ⟨[(0, pSelf), (5, ⟨.lit, ((zfR (Tok.text t)).map zcK).getD .nilFunc⟩), (6, ⟨.bool, ((zfR (Tok.text t)).map zcK).isSome⟩)], pE ty s (t, b) l, 2⟩) ?_ ?_
    · refine AWP.ordersA dM 12 rfl (by kernel_rfl) ?_
      repeat' (first
        | exact AllN.nil
        | refine AllN.cons ⟨_, rfl, ?_⟩ ?_
        | refine StepA.eval hX zbT rfl trivial ?_
        | refine StepA.hand rfl (znc Tryz.underlying204 Tryz.underlying9 rfl (key := strV (Tok.text t)) (z := .nilFunc) (es := zi5) (r := (zfR (Tok.text t)).map zcK) rfl rfl rfl rfl (znu rfl) Tryz.zeroValue206 (zno _) ?_)
        | refine StepA.hand rfl (znR rfl rfl rfl rfl ?_)
        | refine StepA.hand rfl (znQ rfl rfl rfl rfl ?_)
        | (refine OrdA.last ?_; exact ⟨⟨rfl, rfl, rfl, trivial⟩, ⟨rfl, rfl, trivial⟩, rfl, rfl⟩))
    (repeat (first | refine zae ?_ | refine zac ?_ | refine zab ?_ | refine zad ?_)); refine zah ?_
    refine zax 2 hX zbT hpm rfl trivial rfl rfl hok hI (e := zaB (t, b) ((zfR (Tok.text t)).map zcK).isSome 3) rfl (fun er h => ?_) (fun a h2 => ?_)
    · cases hw : zfR (Tok.text t) with
      | some w => rw [hw] at h; cases h
      | none =>
        rw [hw] at h
        cases h
        exact rfl
    cases hw : zfR (Tok.text t) with
    | none => rw [hw] at h2; cases h2
    | some w =>
      refine AL.nil ?_
      refine zan (σ' := ⟨[(0, pSelf), (5, ⟨.lit, zcK w⟩)], pE ty s (t, b) l, 2⟩) ⟨⟨rfl, rfl, trivial⟩, ⟨rfl, rfl, trivial⟩, rfl, rfl⟩ ?_
      change AWP _ _ _ _ _ _ (pQ _ (zih (k + 1)) ty (toX (trX s l) (zbH s (t, b) >>= fun st => zcY s st w >>= fun p => .ok (.leaf p.1, p.2))))
      (repeat (first | refine zae ?_ | refine zac ?_ | refine zab ?_ | refine zad ?_)); refine zah ?_
      refine zax 1 hX zbT hpm rfl trivial rfl rfl hok hI (e := zbH s (t, b)) rfl (fun er h => ?_) (fun st1 h1 => ?_)
      · rw [zal h]
        exact rfl
      rw [zao h1]
      have hc1 := za7 hg (by show Tok.cls t ≠ 0; rw [hcls]; decide) h1
      have hg1 := hc1.1.2.2
      have hz1 := zcO h1
      have hz1 : st1.2 = b + 1 := hz1
      have hst1 : pOk (s, st1.1, l, st1.2, ()) := ⟨hc1.1, hsl⟩
      have hadd : l.length ≤ 100000 := by omega
      refine AL.nil ?_
      refine zan (σ' := ⟨[(0, pSelf), (5, ⟨.lit, zcK w⟩)], pE ty s st1 l, 2⟩) ⟨⟨rfl, rfl, trivial⟩, ⟨rfl, rfl, trivial⟩, rfl, rfl⟩ ?_
      obtain ⟨f, hf, hfo⟩ := zo9 w
      (repeat (first | refine zae ?_ | refine zac ?_ | refine zab ?_ | refine zad ?_)); refine zah ?_
      refine AL.take 3 hX zbT rfl trivial ?_
      refine AL.ownVM hX hfo rfl rfl rfl (by show (⟨.lit, zcK w⟩ : V) = _; rw [hf]) rfl rfl rfl rfl rfl rfl rfl rfl trivial hst1 hI (fun _ => rfl) (e := zcY s st1 w) rfl (fun er h => ?_) (fun r h4 => ?_)
      · rw [zal h]
        exact rfl
      rw [zao h4]
      obtain ⟨n0, st2⟩ := r
      have hc2 : Onw s st1 st2 := zk2 hc1.1 w h4
      have hst2 : pOk (s, st2.1, l, st2.2, ()) := ⟨hc2.1, hsl⟩
      refine AL.own 0 hX zbT hpm rfl trivial rfl rfl ⟨hst2, hadd⟩ hI ?_
      refine AL.all hX zbT rfl trivial ?_
      refine AWP.ret ⟨.inr rfl, ⟨_, rfl, nd, 1, _, rfl, rfl, rfl⟩, zay rfl trivial rfl rfl ?_⟩
      show ((l.length : Nat) : Int) = ((l.length + 1 : Nat) : Int) - 1
      omega
def Rec3 (k : Nat) : Prop := zaA Tryz.prog gmH 80 (cBin k) ∧ zaA Tryz.prog gmH 133 (zjx k) ∧ zaA Tryz.prog gmH 178 (zih k)
theorem zdM {P : Program} {G : World -> Prop} {f : FuncId} {c : HCtr} (hl : c.law) (hen : ∀ (vs : Array Value) (w : World), (callFunc f vs).run P w = .ok (.enter f vs) w) (h : ∀ x xs, ¬ allP (c.pre x xs)) : zaA P G f c :=
  ⟨hen, hl, fun _ _ _ _ _ x xs _ _ _ _ _ _ _ _ hp => (h x xs hp).elim⟩
theorem zkE : ∀ k, Rec3 k
  | 0 => by
    refine ⟨zdM za6 Tryz.call80 fun x xs h => ?_, zdM za6 Tryz.call133 fun x xs h => ?_, zdM za6 Tryz.call178 fun x xs h => ?_⟩
    · exact absurd h.2.2.2.2 (Nat.not_lt_zero _)
    · exact absurd h.2.2 (Nat.not_lt_zero _)
    · exact absurd h.2.2 (Nat.not_lt_zero _)
  | k + 1 => by
    obtain ⟨h1, h2, h3⟩ := zkE k
    exact ⟨zoa k h1 h2, zpv k h3, zlH k h1⟩
@[reducible] def nBox (s : List UInt8) (t : TokT) (b : Int) : OObj := .hbox 139 [⟨.str, s⟩, ⟨i64, t.1⟩, ⟨i64, t.2.1⟩, ⟨i64, t.2.2.1⟩, ⟨.str, t.2.2.2.1⟩, ⟨i64, t.2.2.2.2.1⟩, ⟨.lit, .slice none 0 0⟩, ⟨i64, b⟩]
@[reducible] def cNewP : FCtr := { args := [.str], pre := fun xs => [List.length xs.1 ≤ 100000], obj := fun xs => nBox xs.1 (zaW xs.1) 0 }
def ziS (s : List UInt8) : Value := .agg #[.string ⟨s.toArray⟩, .int .i64 0, .int .i64 0, .int .i64 0, .string ⟨#[]⟩, .int .i64 0, .slice none 0 0, .int .i64 0]
theorem zoR (s : List UInt8) : Tryz.prog.built 139 [(0, .string ⟨s.toArray⟩)] = some #[.string ⟨s.toArray⟩, .int .i64 0, .int .i64 0, .int .i64 0, .string ⟨#[]⟩, .int .i64 0, .slice none 0 0, .int .i64 0] := by kernel_rfl
section
variable {w0 : World} {X : Ownr} {n : Nat} {Q : Exit -> AS -> Prop} {ops : Array Oper}
theorem AL.newPs (hX : X.Ok w0) {o1 o2 : Oper} {rest : List Oper} {d1 d2 : Nat} {x : Operand} (ho1 : o1.op = .build 139 #[(0, x)]) (ho2 : o2.op = .box 139 (.tmp d1)) (hg1 : o1.guard = none) (hg2 : o2.guard = none) (hd1 : o1.dst = some d1) (hd2 : o2.dst = some d2) (hn1 : Nat.blt d1 n = true) (hn2 : Nat.blt d2 n = true) {F : Frame} {E : Owns} {nx : Nat} {s : List UInt8} (hx : evO F x = ⟨.str, s⟩)
    (h : AL Tryz.prog w0 X n ops rest ⟨(d2, ⟨.hptr, (nx, (0 : Nat))⟩) :: (d1, ⟨.lit, ziS s⟩) :: F, (nx, some (nBox s zTk 0)) :: E, nx + 1⟩ Q) : AL Tryz.prog w0 X n ops (o1 :: o2 :: rest) ⟨F, E, nx⟩ Q := by
  refine AL.hand hg1 (fun c e => by rw [ho1] at e; cases e) fun β a w hs => ?_
  have hl1 : d1 < n := by simpa using hn1
  have hl2 : d2 < n := by simpa using hn2
  have hsx := hs.ops x
  rw [show evO (AS.mk F E nx).F x = _ from hx] at hsx
  obtain ⟨hsx, hle⟩ := hsx
  have hsx : a.eval x = .string ⟨s.toArray⟩ := List.singleton_inj.1 hsx
  refine zbq (u := ziS s) (w' := w) ?_ ?_
  · unfold execOp
    simp only [ho1]
    refine zdG ?_
    rw [show (#[(0, x)] : Array (Nat × Operand)).map (fun p => (p.1, a.eval p.2)) = #[(0, Value.string ⟨s.toArray⟩)] from by simp [hsx]]
    exact run_build w _ _ _ (zoR s)
  rw [hd1]
  refine ⟨_, β, hs.put (Below.refl _ _) (v := ⟨.lit, ziS s⟩) rfl (Nat.zero_le _) hl1, ?_⟩
  refine AL.hand hg2 (fun c e => by rw [ho2] at e; cases e) fun β a w hs => ?_
  have hv : a.eval (.tmp d1) = ziS s := by
    have h1 := hs.ops (.tmp d1)
    have e : evO ((d1, ⟨.lit, ziS s⟩) :: F) (.tmp d1) = ⟨.lit, ziS s⟩ := by
      show Frame.get ((d1, _) :: F) d1 = _
      rw [zaw, if_pos rfl]
    rw [show evO (AS.mk ((d1, ⟨.lit, ziS s⟩) :: F) E nx).F (.tmp d1) = _ from e] at h1
    exact h1
  refine zbq (u := .pointer (some ⟨w.heap.size, 0, none⟩)) (w' := w.alloc (.cells #[.string ⟨s.toArray⟩, .int .i64 0, .int .i64 0, .int .i64 0, .string ⟨#[]⟩, .int .i64 0, .slice none 0 0, .int .i64 0] 139 (0, 0))) ?_ ?_
  · unfold execOp
    simp only [ho2]
    refine zdG ?_
    rw [hv]
    simp [Instr.box, newVar, newRow, Value.cells, go_sem, ziS]
  · rw [hd2]
    obtain ⟨β', h4⟩ := hs.make hX ((Below.refl _ w).alloc (Nat.le_refl _) (.cells #[.string ⟨s.toArray⟩, .int .i64 0, .int .i64 0, .int .i64 0, .string ⟨#[]⟩, .int .i64 0, .slice none 0 0, .int .i64 0] 139 (0, 0))) (bv := .pointer (some ⟨w.heap.size, 0, none⟩)) (o := nBox s zTk 0)
      (fun O β' hO => ⟨w.heap.size, [_, _, _, _, _, _, _, _], rfl, Nat.zero_le _, World.alloc_heap_new w _, _, _, rfl, rfl, ⟨rfl, hle⟩, _, _, rfl, rfl, rfl, _, _, rfl, rfl, rfl, _, _, rfl, rfl, rfl, _, _, rfl, rfl, ⟨rfl, Nat.zero_le _⟩, _, _, rfl, rfl, rfl, _, _, rfl, rfl, rfl, _, _, rfl, rfl, rfl, rfl⟩)
      (fun g hg => by cases hg; exact Nat.le_refl _) (v := ⟨.hptr, (nx, (0 : Nat))⟩) (u := .pointer (some ⟨w.heap.size, 0, none⟩))
      (fun O β' hb => ⟨w.heap.size, by show zag (β' nx) = _; rw [show β' nx = _ from hb]; rfl, rfl⟩) (Nat.le_refl _) hl2 (fun vs e v hv => by
        cases e
        have : ((nBox s zTk 0).bare) = true := rfl
        exact OObj.bare_under this _ _ rfl _ hv)
    exact ⟨_, β', h4, h⟩
end
theorem zdJ : zli Tryz.prog gmH 45 cNewP := by
  refine zkb zcA Tryz.func45 rfl rfl Tryz.call45 rfl (Nat.le_of_ble_eq_true rfl) (fun xs => ⟨rfl, rfl⟩) ?_
  rintro w0 O hX ⟨(s : List UInt8), ⟨⟩⟩ hp
  have hlen : s.length ≤ 100000 := hp
  change AWP _ _ _ _ _ ⟨[(0, ⟨.str, s⟩)], [], 0⟩ _
  (repeat (first | refine zae ?_ | refine zac ?_ | refine zab ?_ | refine zad ?_)); refine zaa hX zcA rfl ?_ ?_
  · trivial
  (repeat (first | refine zae ?_ | refine zac ?_ | refine zab ?_ | refine zad ?_)); refine zah ?_
  refine AL.take 1 hX zcA rfl trivial ?_
  refine AL.newPs hX rfl rfl rfl rfl rfl rfl rfl rfl rfl ?_
  refine AL.all hX zcA rfl trivial ?_
  (repeat (first | refine zae ?_ | refine zac ?_ | refine zab ?_ | refine zad ?_)); refine zaa hX zcA rfl ?_ ?_
  · exact hlen
  (repeat (first | refine zae ?_ | refine zac ?_ | refine zak ?_ | refine zad ?_ | refine zab ?_ | refine zaa hX zcA rfl trivial ?_ | refine zaa hX zcA rfl id ?_ | refine zaa hX zcA rfl ⟨id, id⟩ ?_))
  exact AWP.ret ⟨.inr rfl, _, _, rfl, rfl, rfl⟩
def lQ (rs : List ResultVar) (t : Ty) (r : Except Value t.T) (e : Exit) (σ : AS) : Prop := LDone gmT rs t e σ r
def zdP (s : List UInt8) (st : GSt) (l : List Nd) : Except Value (List Nd) := toX (fun r => l ++ r.1.flat l.length) (zet s st)
@[reducible] def cRule : HCtr := hP [] (.slice nd) (fun x _ => [few x]) fun x _ => .ok ([], x)
def hRu (k : Nat) : List (FuncId × HCtr) := [(80, cBin k), (81, zfO)]
theorem zmM : ze9 Tryz.prog gmH 46 cRule (fun x _ => zdP x.1 (stOf x) x.2.2.1) := by
  refine zgA (K := gmK) zaj Tryz.func46 rfl rfl za6 Tryz.call46 rfl (Nat.le_of_ble_eq_true rfl) zaN ?_
  rintro w0 ⟨G, O, K, fix, D, ρ, B⟩ ty hX hG hK hρ hD hinv x ⟨⟩ hp
  obtain rfl : G = gmH := hG
  obtain rfl : K = 1 := hK
  obtain rfl : ρ = none := hρ
  obtain rfl : D = [] := hD
  have hI := zaD (ty := ty) hX rfl hinv (ty' := ty)
  obtain ⟨s, t, l, b, ⟨⟩⟩ := x
  obtain ⟨hok, hfew⟩ : pOk (s, t, l, b, ()) ∧ few (s, t, l, b, ()) := hp
  have hg : GOk s (t, b) := hok.1
  have hsl : s.length ≤ 100000 := hok.2
  have hru : HsOk Tryz.prog gmH (hRu (meas s (.bin 0) (t, b) + 1)) := .cons (zkE _).1 <| .cons zd8 .nil
  change AWP _ _ _ _ _ ⟨[(0, pSelf)], pE ty s (t, b) l, 2⟩ (lQ _ (.slice nd) (zdP s (t, b) l))
  unfold zdP
  obtain ⟨R, hR⟩ : ∃ R, R = zet s (t, b) := ⟨_, rfl⟩
  rw [<- hR]
  unfold zet at hR
  (repeat (first | refine zae ?_ | refine zac ?_ | refine zab ?_ | refine zad ?_)); refine zaa hX zaj rfl ?_ ?_
  · trivial
  (repeat (first | refine zae ?_ | refine zac ?_ | refine zab ?_ | refine zad ?_)); refine zah ?_
  refine zax 1 hX zaj hru rfl trivial rfl rfl ⟨hok, (by decide : (0 : Int) ≤ 0), (by decide : (0 : Int) ≤ 3), hfew, Nat.lt_succ_self _⟩ hI (f := trX s l) (e := prsT s (.bin 0) (t, b)) rfl (fun er h => ?_) (fun a h => ?_)
  · rw [hR, zal h]
    exact rfl
  rw [h] at hR
  obtain ⟨u, st⟩ := a
  have hc : Onw s (t, b) st := zcT hg h
  have hst : pOk (s, st.1, l ++ u.flat l.length, st.2, ()) := ⟨hc.1, hsl⟩
  refine AL.all hX zaj rfl trivial ?_
  refine zan (σ' := ⟨[(0, pSelf)], pE ty s st (l ++ u.flat l.length), 2⟩) ⟨⟨rfl, trivial⟩, ⟨rfl, rfl, trivial⟩, rfl, rfl⟩ ?_
  (repeat (first | refine zae ?_ | refine zac ?_ | refine zab ?_ | refine zad ?_)); refine zah ?_
  refine zax 7 hX zaj hru rfl trivial rfl rfl hst hI (e := zaB st (Tok.cls st.1 == 0) 3) rfl (fun er h => ?_) (fun a h => ?_)
  · rw [show R = .error er by rw [hR]; show (zaB st _ 3 >>= _) = _; rw [h]; rfl]
    exact rfl
  rw [show R = .ok (u, st) by rw [hR]; show (zaB st _ 3 >>= _) = _; rw [h]; rfl]
  refine AL.nil ?_
  (repeat (first | refine zae ?_ | refine zac ?_ | refine zak ?_ | refine zad ?_ | refine zab ?_ | refine zaa hX zaj rfl trivial ?_ | refine zaa hX zaj rfl id ?_ | refine zaa hX zaj rfl ⟨id, id⟩ ?_))
  refine AWP.frz hX 2 ?_
  exact AWP.ret ⟨.inr rfl, zay rfl trivial rfl rfl rfl⟩
def gDef (s : List UInt8) (st : GSt) (n : Int) : Except (Int × Int) (List UInt8 × Tr) := do
  zaB st (Tok.cls st.1 == 1) 3
  zaB st (decide ((Tok.text st.1).length ≤ 32) && decide (n < 4096)) 2
  let st' <- zaQ s (gAdv s st) wEq
  let p <- zet s st'
  return (Tok.text st.1, p.1)
def zj8 (s : List UInt8) (st : GSt) (l : List Nd) (n : Int) : Except Value (List UInt8 × List Nd × Unit) := toX (fun r => (r.1, l ++ r.2.flat l.length, ())) (gDef s st n)
@[reducible] def cDef : HCtr := hP [i64] de (fun x _ => [few x]) fun x _ => .ok (([], [], ()), x)
def hDf : List (FuncId × HCtr) := [(81, zfO), (87, cAdv), (88, zfv)]
theorem zkW : HsOk Tryz.prog gmH hDf := .cons zd8 <| .cons zfx <| .cons ze0 .nil
theorem ze3 : ze9 Tryz.prog gmH 55 cDef (fun x xs => zj8 x.1 (stOf x) x.2.2.1 xs.1) := by
  refine zgA (K := gmK) zaj Tryz.func55 rfl rfl za6 Tryz.call55 rfl (Nat.le_of_ble_eq_true rfl) zaN ?_
  rintro w0 ⟨G, O, K, fix, D, ρ, B⟩ ty hX hG hK hρ hD hinv x ⟨(k : Int), ⟨⟩⟩ hp
  obtain rfl : G = gmH := hG
  obtain rfl : K = 1 := hK
  obtain rfl : ρ = none := hρ
  obtain rfl : D = [] := hD
  have hI := zaD (ty := ty) hX rfl hinv (ty' := ty)
  obtain ⟨s, t, l, b, ⟨⟩⟩ := x
  obtain ⟨hok, hfew⟩ : pOk (s, t, l, b, ()) ∧ few (s, t, l, b, ()) := hp
  have hg : GOk s (t, b) := hok.1
  have hsl : s.length ≤ 100000 := hok.2
  change AWP _ _ _ _ _ ⟨[(0, pSelf), (1, ⟨i64, k⟩)], pE ty s (t, b) l, 2⟩ (lQ _ de (zj8 s (t, b) l k))
  unfold zj8
  obtain ⟨R, hR⟩ : ∃ R, R = gDef s (t, b) k := ⟨_, rfl⟩
  rw [<- hR]
  unfold gDef at hR
  have hls : (Tok.text t).length ≤ 100000 := by
    have := hg.1.2.2.2.2.1
    have this : (Tok.text t).length ≤ s.length := this
    omega
  (repeat (first | refine zae ?_ | refine zac ?_ | refine zab ?_ | refine zad ?_)); refine zaa hX zaj rfl ?_ ?_
  · trivial
  (repeat (first | refine zae ?_ | refine zac ?_ | refine zab ?_ | refine zad ?_)); refine zah ?_
  refine zax 7 hX zaj zkW rfl trivial rfl rfl hok hI (e := zaB (t, b) (Tok.cls t == 1) 3) rfl (fun er h => ?_) (fun a h => ?_)
  · rw [hR, zal (by exact h)]
    exact rfl
  have hcls : Tok.cls t = 1 := beq_iff_eq.1 (zbl h)
  rw [show (zaB (t, b) (Tok.cls (t, b).1 == 1) 3) = .ok a from h] at hR
  have hR : R = (zaB (t, b) (decide ((Tok.text t).length ≤ 32) && decide (k < 4096)) 2 >>= fun _ => zaQ s (gAdv s (t, b)) wEq >>= fun st' => zet s st' >>= fun p => .ok (Tok.text t, p.1)) := hR
  refine AL.nil ?_
  refine zan (σ' := ⟨[(0, pSelf), (1, ⟨i64, k⟩), (4, ⟨.optr de, ⟨2, de, .here⟩⟩)], [(0, some (pBox ty s (t, b))), (1, some (.buf 73 nd l)), (2, some (.box de ([], [], ())))], 3⟩) ⟨⟨rfl, rfl, rfl, trivial⟩, ⟨rfl, rfl, rfl, trivial⟩, rfl, rfl⟩ ?_
  (repeat (first | refine zae ?_ | refine zac ?_ | refine zab ?_ | refine zad ?_)); refine zah ?_
  refine zax 12 hX zaj zkW rfl ?_ rfl rfl hok hI (e := zaB (t, b) (bif decide (((Tok.text t).length : Int) ≤ ((32 : Nat) : Int)) then decide (k < 4096) else false) 2) rfl (fun er h => ?_) (fun a h => ?_)
  · repeat' (first | exact trivial | assumption | (refine ⟨?_, ?_⟩) | (intro _) | exact Nat.le_of_ble_eq_true rfl | exact Int.natCast_nonneg _ | (simp_all [allP]; done))
  · rw [zca, dNat] at h
    rw [hR, zal h]
    exact rfl
  rw [zca, dNat] at h
  rw [h] at hR
  have hR : R = (zaQ s (gAdv s (t, b)) wEq >>= fun st' => zet s st' >>= fun p => .ok (Tok.text t, p.1)) := hR
  refine AL.nil ?_
  refine zan (σ' := ⟨[(0, pSelf), (4, ⟨.optr de, ⟨2, de, .here⟩⟩)], [(0, some (pBox ty s (t, b))), (1, some (.buf 73 nd l)), (2, some (.box de ([], [], ())))], 3⟩) ⟨⟨rfl, rfl, trivial⟩, ⟨rfl, rfl, rfl, trivial⟩, rfl, rfl⟩ ?_
  have hc1 := zbV hg (by show Tok.cls t ≠ 0; rw [hcls]; decide)
  obtain ⟨st1, hst1⟩ : ∃ st1, st1 = gAdv s (t, b) := ⟨_, rfl⟩
  have hz1 : st1.2 = b := by rw [hst1]; rfl
  (repeat (first | refine zae ?_ | refine zac ?_ | refine zab ?_ | refine zad ?_)); refine zah ?_
  refine AL.own 1 hX zaj zkW rfl trivial rfl rfl hok hI ?_
  rw [<- hst1] at hR hc1
  refine AL.fit (σ' := ⟨[(0, pSelf), (4, ⟨.optr de, ⟨2, de, .here⟩⟩), (28, ⟨tk, t⟩)], [(0, some (pBox ty s st1)), (1, some (.buf 73 nd l)), (2, some (.box de ([], [], ())))], 3⟩) ⟨⟨rfl, rfl, rfl, trivial⟩, ⟨by rw [hst1]; rfl, rfl, rfl, trivial⟩, rfl, rfl⟩ ?_
  refine AL.all hX zaj rfl trivial ?_
  refine zan (σ' := ⟨[(0, pSelf), (4, ⟨.optr de, ⟨2, de, .here⟩⟩), (5, ⟨.optr de, ⟨3, de, .here⟩⟩)], [(0, some (pBox ty s st1)), (1, some (.buf 73 nd l)), (2, some (.box de ([], [], ()))), (3, some (.box de (Tok.text t, [], ())))], 4⟩) ⟨⟨rfl, rfl, rfl, trivial⟩, ⟨rfl, rfl, rfl, rfl, trivial⟩, rfl, rfl⟩ ?_
  have hok1 : pOk (s, st1.1, l, st1.2, ()) := ⟨hc1.1, hsl⟩
  (repeat (first | refine zae ?_ | refine zac ?_ | refine zab ?_ | refine zad ?_)); refine zah ?_
  refine zax 1 hX zaj zkW rfl trivial rfl rfl hok1 hI (e := zaQ s st1 wEq) rfl (fun er h => ?_) (fun st2 h2 => ?_)
  · rw [hR, zal (by exact h)]
    exact rfl
  rw [h2] at hR
  have hR : R = (zet s st2 >>= fun p => .ok (Tok.text t, p.1)) := hR
  have hc2 := za9 hc1.1 h2
  have hz2 := zdj h2
  have hok2 : pOk (s, st2.1, l, st2.2, ()) := ⟨hc2.1, hsl⟩
  have hfew2 : few (s, st2.1, l, st2.2, ()) := by
    show ((l.length : Nat) : Int) ≤ st2.2
    rw [hz2, hz1]
    exact hfew
  refine AL.nil ?_
  refine zan (σ' := ⟨[(0, pSelf), (4, ⟨.optr de, ⟨2, de, .here⟩⟩), (5, ⟨.optr de, ⟨3, de, .here⟩⟩)], [(0, some (pBox ty s st2)), (1, some (.buf 73 nd l)), (2, some (.box de ([], [], ()))), (3, some (.box de (Tok.text t, [], ())))], 4⟩) ⟨⟨rfl, rfl, rfl, trivial⟩, ⟨rfl, rfl, rfl, rfl, trivial⟩, rfl, rfl⟩ ?_
  (repeat (first | refine zae ?_ | refine zac ?_ | refine zab ?_ | refine zad ?_)); refine zah ?_
  refine AL.take 1 hX zaj rfl trivial ?_
  refine AL.give hX zmM rfl rfl rfl rfl rfl rfl rfl rfl rfl rfl rfl rfl trivial ⟨hok2, hfew2⟩ hI rfl rfl ?_
  cases h3 : zet s st2 with
  | error er =>
    rw [h3] at hR
    rw [show zdP s (stOf (s, st2.1, l, st2.2, ())) l = .error (pvS er) by unfold zdP; rw [show stOf (s, st2.1, l, st2.2, ()) = st2 from rfl, h3]; rfl]
    rw [show R = .error er from hR]
    exact rfl
  | ok p =>
    rw [h3] at hR
    rw [show zdP s (stOf (s, st2.1, l, st2.2, ())) l = .ok (l ++ p.1.flat l.length) by unfold zdP; rw [show stOf (s, st2.1, l, st2.2, ()) = st2 from rfl, h3]; rfl]
    rw [show R = .ok (Tok.text t, p.1) from hR]
    show AL _ _ _ _ _ _ _ _
    refine AL.all hX zaj rfl trivial ?_
    (repeat (first | refine zae ?_ | refine zac ?_ | refine zak ?_ | refine zad ?_ | refine zab ?_ | refine zaa hX zaj rfl trivial ?_ | refine zaa hX zaj rfl id ?_ | refine zaa hX zaj rfl ⟨id, id⟩ ?_))
    exact AWP.ret ⟨.inr rfl, zay rfl trivial rfl rfl rfl⟩
def zoi (c : HCtr) (ty : TypeId) (e : Exit) (σ : AS) : Except Value (c.res.T × c.self.T) -> Prop
  | .ok (_, x') => (e = .normal ∨ e = .ret) ∧ ∃ vs, Owns.get σ.E 0 = some (.hbox ty vs) ∧ unH c 0 vs σ.E x'
  | .error pv => e = .panic [{ v := pv, recovered := false }]
section
variable {P : Program} {K : Kn} {n : Nat}
theorem zfL {G : World -> Prop} (hK : KnOk P G K) {f : FuncId} {fn : Func} {c : Code} {ctr : HCtr} (hf : P.funcs[f]? = some fn) (hb : fn.body = some c) (hn : fn.ntmps = n) (hlaw : ctr.law)
    (hen : ∀ (us : Array Value) (w : World), (callFunc f us).run P w = .ok (.enter f us) w) (hunit : ctr.res = .unit) (hrs : ∀ tmps w, ∃ v, (results fn tmps).run P w = .ok v w) (hd : zaY ctr.args = true) (hlen : ctr.args.length + 1 ≤ n) (hst : ∀ w w' R ty, ctr.inv w R ty -> G w -> Kept R w w' -> G w')
    (h : ∀ (w0 : World) (X : Ownr) (ty : TypeId), X.Ok w0 -> X.G = G -> X.K = 1 -> X.ρ = none -> X.D = [] -> ctr.inv w0 X.R ty -> ∀ (x : ctr.self.T) (xs : Args ctr.args), allP (ctr.pre x xs) ->
      AWP P w0 X n c (zjc ctr ty x xs) (fun e σ => zoi ctr ty e σ (ctr.out x xs))) : zaA P G f ctr := by
  refine ⟨hen, hlaw, fun w O g cs ty x xs vs b hO hgb hg hx hbuf hrep hp hinv hG => calls_of_wp hf hb ?_⟩
  obtain ⟨X, hXd, hX, hXR, hsim⟩ := zqS (ctr := ctr) (G := G) hn hlaw hd hlen hst hO hgb hg hx hbuf hrep hinv hG
  have hXX : X.X = O := by rw [hXd]
  have hXG : X.G = G := by rw [hXd]
  have hinv' : ctr.inv w X.R ty := by
    rw [show X.R = fun h => h = g ∨ zag b = some h from funext fun h => propext (hXR h)]
    exact hinv
  have hw := h w X ty hX hXG (by rw [hXd]) (by rw [hXd]) (by rw [hXd]) hinv' x xs hp _ _ _ hsim
  rw [show X.ρ = none by rw [hXd]] at hw
  refine wp_mono (wpIn_wide.1 hw) fun e a' w' ⟨σ', β', h1, h2⟩ => ?_
  have hbk : Kept (fun h => h = g ∨ zag b = some h) w w' := ⟨h1.bel.os, h1.bel.tape, h1.bel.output, h1.bel.size, fun k hk hr => h1.bel.block k hk fun hr' => hr ((hXR k).1 hr')⟩
  have hdf : a'.defers = [] := by rw [h1.df, hXd]
  revert h2
  cases ho : ctr.out x xs with
  | error pv =>
    rintro rfl
    exact ⟨hdf, hbk, rfl⟩
  | ok p =>
    obtain ⟨y, x'⟩ := p
    rintro ⟨h2, ws, h6, h7⟩
    obtain ⟨et', j, k1, k2, _, _⟩ := zdY hlaw h7
    obtain ⟨g', cs', hb1, _, hb3, hb4⟩ := h1.own 0 _ h6
    have hb5 := (h1.fix.2 0 (by rw [hXd]; exact Nat.lt_succ_self 0)).1
    rw [hb1] at hb5
    have hgg : g' = g := by
      have h : some g' = some (X.fix 0) := hb5
      rw [hXd] at h
      exact Option.some.inj h
    subst hgg
    have hj := h1.own j _ k2
    have hne : (0 : Nat) ≠ j := fun e => by rw [<- e, h6] at k2; cases k2
    have hsub : ∀ k, zbj O g' (β' j) k -> OSet X σ'.E β' k := fun k hk => by
      rcases hk with (hk | hk) | hk
      · exact .inl (by rw [hXX]; exact hk)
      · exact .inr ⟨0, _, h6, by rw [hb1, hk]; rfl⟩
      · exact .inr ⟨j, _, k2, hk⟩
    have hkp : Keeps w' w' (OSet X σ'.E β') (zbj O g' (β' j)) := ⟨Nat.le_refl _, fun _ _ _ => rfl, fun k _ hk => hsub k hk⟩
    have hlvr : RepH w' (zbj O g' (β' j)) (zcv g' (β' j)) (ctr.lv 0 1 x') cs' := RepH.toLv hlaw hkp h7 hb4 (fun j' et'' hj' => by
      rw [k1] at hj'
      cases hj'
      rfl) (by rw [hb1]; rfl)
    have hbr : OwnRep w' (zbj O g' (β' j)) (zcv g' (β' j)) 0 (β' j) (.buf ctr.te ctr.et (ctr.sl x')) := hj.keep hkp fun _ _ => rfl
    have hnew : ∀ h, zag (β' j) = some h -> zag b = some h ∨ w.heap.size ≤ h := fun h hh => by
      rcases h1.new j _ h k2 hh with h8 | h8
      · exact .inr h8
      · rcases (hXR h).1 h8 with rfl | h8
        · exact absurd hh (h1.inj 0 j _ _ h6 k2 hne h (by rw [hb1]; rfl))
        · exact .inl h8
    have hng : zag (β' j) ≠ some g' := h1.inj 0 j _ _ h6 k2 hne g' (by rw [hb1]; rfl)
    obtain ⟨v, h4⟩ := hrs a'.tmps w'
    rcases h2 with rfl | rfl
    · exact ⟨hdf, v, h4, hbk, v, cs', _, rfl, hb3, hlvr, hbr, hng, hnew, .inl hunit⟩
    · exact ⟨hdf, v, h4, hbk, v, cs', _, rfl, hb3, hlvr, hbr, hng, hnew, .inl hunit⟩
end
abbrev prT : Ty := .pair (.slice nd) .unit
@[reducible] def bTy (T : Ty) : Ty := .pair .bool (.pair bs T)
def bInv (T : Ty) (tys : List TypeId) (w : World) (R : Nat -> Prop) (ty : TypeId) : Prop := ginv w R ty ∧ ty ∈ tys
theorem zdb (T : Ty) (tys : List TypeId) : ∀ w w' R (ty : TypeId), bInv T tys w R ty -> gmH w -> Kept R w w' -> gmH w' := fun _ _ _ ty h hg hk => zaN _ _ _ ty h.1 hg hk
@[reducible] def hBl (T : Ty) (tys : List TypeId) (args : List Ty) (res : Ty) (pre : (bTy T).T -> Args args -> List Prop) (out : (bTy T).T -> Args args -> Except Value (res.T × (bTy T).T)) : HCtr :=
  { self := bTy T, k := 1, ad := some 0, on := fun x => x.1, te := 5, et := u8, sl := fun x => x.2.1, args := args, inv := bInv T tys, pre := pre, res := res, out := out }
theorem zb8 {T : Ty} (hT : T.leafD = true) {tys : List TypeId} {args : List Ty} {res : Ty} {pre : (bTy T).T -> Args args -> List Prop} {out : (bTy T).T -> Args args -> Except Value (res.T × (bTy T).T)} : (hBl T tys args res pre out).law :=
  ⟨hT, fun _ => rfl, fun a h => by cases h; exact ⟨Nat.zero_ne_one, fun _ => rfl⟩⟩
def tyOk (T : Ty) : List TypeId -> Prop := fun tys => ∀ ty ∈ tys, (ty = 107 ∨ ty = 105) ∧ ∀ x : T.T, (zaP T x).length = if ty = 105 then 0 else 1
@[reducible] def cCC (T : Ty) (tys : List TypeId) : HCtr := hBl T tys [] .unit (fun _ _ => []) fun x _ => .ok ((), (true, x.2))
theorem zm9 (T : Ty) (tys : List TypeId) {args : List Ty} {res : Ty} {pre : (bTy T).T -> Args args -> List Prop} {out : (bTy T).T -> Args args -> Except Value (res.T × (bTy T).T)} (i j : Nat) (x : (bTy T).T) : (hBl T tys args res pre out).lv i j x = adV i x.1 :: ⟨.obuf u8, j⟩ :: zaP T x.2.2 := rfl
theorem zkD {w : World} {O : Nat -> Prop} {β : Nat -> Value} : ∀ {vs : List V} {cs : List Value}, RepH w O β vs cs -> cs.length = vs.length
  | [], _, h => by rw [show _ = [] from h]; rfl
  | v :: r, _, ⟨u, s, rfl, _, _, h⟩ => by rw [List.length_cons, List.length_cons, zkD h]
theorem zfN (T : Ty) (hT : T.leafD = true) (tys : List TypeId) (ht : tyOk T tys) : zaA Tryz.prog gmH 114 (cCC T tys) := by
  refine ⟨Tryz.call114, zb8 hT, fun w O g cs ty x xs vs b hO hgb hg hx hbuf hrep hpre hinv hG => ?_⟩
  have hvs : vs = [] := hrep
  subst hvs
  rw [zm9] at hx
  obtain ⟨u, r, rfl, hu1, hu, hr⟩ := hx
  obtain ⟨hty, hlen⟩ := ht ty hinv.2
  have hrl := zkD hr
  rw [List.length_cons, hlen] at hrl
  have hgl := (Array.getElem?_eq_some_iff.1 hg).1
  cases hx1 : x.1 with
  | true =>
    rw [hx1] at hu
    obtain ⟨g', e1, e2⟩ : ∃ g', zag (zcv g b 0) = some g' ∧ u = .pointer (some ⟨g', 0, none⟩) := hu
    have e1 : some g = some g' := e1
    cases e1
    subst e2
    have hc : w.cell? ⟨g, 0, none⟩ = some (.pointer (some ⟨g, 0, none⟩)) := by simp [World.cell?, hg]
    refine (Go.Proofs.Any.Builder_copyCheck_used Tryz.lays240 Tryz.Builder_X72_240 g w hc).mono ?_
    rintro e w' ⟨rfl, rfl⟩
    refine ⟨Kept.refl _ _, _, _, b, rfl, hg, ?_, hbuf, hgb, fun h hh => .inl hh, .inl rfl⟩
    rw [zm9]
    exact ⟨_, _, rfl, rfl, ⟨g, rfl, rfl⟩, hr⟩
  | false =>
    rw [hx1] at hu
    have hu : u = .pointer none := hu
    subst hu
    refine (zhb ty hty g w r (by rw [hrl]; split <;> rfl) hg).mono ?_
    rintro e w' ⟨rfl, rfl⟩
    have hk : Kept (fun h => h = g ∨ zag b = some h) w (w.setCell ⟨g, 0, none⟩ (.pointer (some ⟨g, 0, none⟩))) := ⟨rfl, rfl, rfl, by simp [World.setCell], fun k _ hn => Below.heap_setCell w ⟨g, 0, none⟩ _ k fun e => hn (.inl e)⟩
    have hkk : Keeps w (w.setCell ⟨g, 0, none⟩ (.pointer (some ⟨g, 0, none⟩))) (zbj O g b) (zbj O g b) := ⟨hk.size, fun k _ hn => Below.heap_setCell w ⟨g, 0, none⟩ _ k fun e => hn (.inl (.inr e)), fun _ _ h => h⟩
    refine ⟨hk, _, .pointer (some ⟨g, 0, none⟩) :: r, b, rfl, ?_, ?_, hbuf.keep hkk fun k hk => Below.heap_setCell w ⟨g, 0, none⟩ _ k fun e => hgb (by rw [hk, e]), hgb, fun h hh => .inl hh, .inl rfl⟩
    · show (w.heap.modify g _)[g]? = _
      rw [Array.getElem?_eq_getElem (by rw [Array.size_modify]; exact hgl), Array.getElem_modify_self, (Array.getElem?_eq_some_iff.1 hg).2]
      simp
    · rw [zm9]
      exact ⟨_, _, rfl, rfl, ⟨g, rfl, rfl⟩, hr.keep hkk⟩
def Ty.noB : Ty -> Bool
  | .obuf _ => false
  | .cond t => t.noB
  | .hcons a b => a.noB && b.noB
  | _ => true
theorem RepV.fixβ {w : World} {O : Nat -> Prop} {β β' : Nat -> Value} {K : Nat} (hβ : ∀ i, i < K -> zag (β' i) = zag (β i)) : ∀ (t : Ty) (x : t.T) (v : Value), t.noB = true -> bnd t x ≤ K -> RepV w O β t x v -> RepV w O β' t x v := by
  intro t
  induction t with
  | optr t _ =>
    rintro x v _ hb ⟨g, h1, h2⟩
    have hb : x.i + 1 ≤ K := hb
    exact ⟨g, (hβ _ (by omega)).trans h1, h2⟩
  | obuf t _ => intro x v hn; cases hn
  | cond t ih => intro x v hn hb h; exact ⟨fun hc => ih _ _ hn hb (h.1 hc), h.2⟩
  | hptr =>
    rintro x v _ hb ⟨g, h1, h2⟩
    have hb : x.1 + 1 ≤ K := hb
    exact ⟨g, (hβ _ (by omega)).trans h1, h2⟩
  | hcons a b iha ihb =>
    rintro x v hn hb ⟨u, s, h1, h2, h3, h4⟩
    have hb' : max (bnd a x.1) (bnd b x.2) ≤ K := hb
    have hn : (a.noB && b.noB) = true := hn
    rw [Bool.and_eq_true] at hn
    exact ⟨u, s, h1, h2, iha _ _ hn.1 (by omega) h3, ihb _ _ hn.2 (by omega) h4⟩
  | _ => intro x v _ hb h; exact h
def zi7 (K : Nat) (v : V) : V := bif v.t.noB && Nat.ble v.bound K then v else ⟨.junk, ()⟩
def zgD (K : Nat) : List (Nat × V) -> List (Nat × V)
  | [] => []
  | (s, v) :: r => (s, zi7 K v) :: zgD K r
theorem zgC (K : Nat) : ∀ (F : Frame) (s : Nat), Frame.get (zgD K F) s = zi7 K (Frame.get F s)
  | [], s => rfl
  | (d, v) :: r, s => by
    show Frame.get ((d, zi7 K v) :: zgD K r) s = _
    rw [zaw, zaw]
    by_cases h : d = s
    · rw [if_pos h, if_pos h]
    · rw [if_neg h, if_neg h, zgC K r s]
theorem znv {w w' : World} {O O' : Nat -> Prop} {β β' : Nat -> Value} {K : Nat} (hk : Keeps w w' O O') (hβ : ∀ i, i < K -> zag (β' i) = zag (β i)) {v : V} {u : Value} (h : RepV w O β v.t v.x u) : RepV w' O' β' (zi7 K v).t (zi7 K v).x u := by
  unfold zi7
  cases hc : v.t.noB && Nat.ble v.bound K with
  | false => trivial
  | true =>
    rw [Bool.and_eq_true] at hc
    exact RepV.fixβ hβ _ _ _ hc.1 (Nat.le_of_ble_eq_true hc.2) (RepV.keep hk _ _ _ h)
theorem zj7 {K : Nat} (v : V) : (zi7 K v).bound ≤ K := by
  unfold zi7
  cases hc : v.t.noB && Nat.ble v.bound K with
  | false => exact Nat.zero_le _
  | true =>
    rw [Bool.and_eq_true] at hc
    exact Nat.le_of_ble_eq_true hc.2
def zeh (E : Owns) : Nat -> Bool
  | 0 => true
  | k + 1 => (match Owns.get E k with
    | some o => !o.isBuf
    | none => false) && zeh E k
theorem zhF {E : Owns} : ∀ {K : Nat}, zeh E K = true -> ∀ i, i < K -> ∃ o, Owns.get E i = some o ∧ o.isBuf = false
  | 0, _, i, hi => absurd hi (Nat.not_lt_zero _)
  | k + 1, h, i, hi => by
    have h : ((match Owns.get E k with
      | some o => !o.isBuf
      | none => false) && zeh E k) = true := h
    rw [Bool.and_eq_true] at h
    by_cases hk : i = k
    · subst hk
      have h1 := h.1
      cases ho : Owns.get E i with
      | none => rw [ho] at h1; cases h1
      | some o => rw [ho] at h1; exact ⟨o, rfl, by simpa using h1⟩
    · exact zhF h.2 i (by omega)
def zq8 (β : Nat -> Value) (i : Nat) : Nat := (zag (β i)).getD 0
def inX (X : Ownr) (E : Owns) (β : Nat -> Value) (K : Nat) (ex : Nat -> Prop) : Ownr := { G := X.G, X := fun g => X.X g ∨ ex g, K := K, fix := zq8 β, D := [], ρ := none, B := fun g => ∃ i o, Owns.get E i = some o ∧ zag (β i) = some g }
section
variable {w0 w w1 : World} {X : Ownr} {n m K : Nat} {F F' : Frame} {E : Owns} {nx : Nat} {β : Nat -> Value} {a a1 : Act} {ex : Nat -> Prop}
theorem zgT (h : Sim w0 X n ⟨F, E, nx⟩ β a w) (hb : zeh E K = true) {i : Nat} (hi : i < K) : ∃ o, Owns.get E i = some o ∧ o.isBuf = false ∧ zag (β i) = some (zq8 β i) := by
  obtain ⟨o, ho, hob⟩ := zhF hb i hi
  refine ⟨o, ho, hob, ?_⟩
  have h1 := h.own i o ho
  unfold zq8
  cases o with
  | box t x => obtain ⟨g, _, _, e, _⟩ := h1; rw [e]; rfl
  | buf te t xs => cases hob
  | hbox ty vs => obtain ⟨g, _, e, _⟩ := h1; rw [e]; rfl
theorem zg6 (h : Sim w0 X n ⟨F, E, nx⟩ β a w) (hb : zeh E K = true) {g : Nat} : (inX X E β K ex).R g ↔ ∃ i o, Owns.get E i = some o ∧ zag (β i) = some g := by
  constructor
  · rintro (⟨i, hi, rfl⟩ | h1)
    · obtain ⟨o, ho, _, hf⟩ := zgT h hb hi
      exact ⟨i, o, ho, hf⟩
    · exact h1
  · exact fun h1 => .inr h1
theorem zfZ (h : Sim w0 X n ⟨F, E, nx⟩ β a w) {g : Nat} (hg : ∃ i o, Owns.get E i = some o ∧ zag (β i) = some g) : g < w.heap.size := by
  obtain ⟨i, o, ho, hf⟩ := hg
  exact ((h.own i o ho).block_lt hf).2
theorem zpR (h : Sim w0 X n ⟨F, E, nx⟩ β a w) (hX : X.Ok w0) (hbl : Below w.heap.size w w1) (hex : ∀ g, ex g -> w.heap.size ≤ g ∧ g < w1.heap.size) (hb : zeh E K = true) : (inX X E β K ex).Ok w1 := by
  have hs0 := h.bel.size
  have hs1 := hbl.size
  refine ⟨fun g hg => ?_, fun g hg => ?_, fun w' hk => ?_⟩
  · rcases hg with hg | hg
    · have := hX.1 g hg
      refine ⟨by omega, fun hr => ?_⟩
      obtain ⟨i, o, ho, hf⟩ := (zg6 h hb).1 hr
      rcases h.new i o g ho hf with h1 | h1
      · omega
      · exact this.2 h1
    · have := hex g hg
      refine ⟨this.2, fun hr => ?_⟩
      have := zfZ h ((zg6 h hb).1 hr)
      omega
  · have := zfZ h ((zg6 h hb).1 hg)
    omega
  · refine hX.2.2 w' ⟨hk.os.trans (hbl.os.trans h.bel.os), hk.tape.trans (hbl.tape.trans h.bel.tape), hk.output.trans (hbl.output.trans h.bel.output), Nat.le_trans hs0 (Nat.le_trans hs1 hk.size), fun k hkl hr => ?_⟩
    rw [hk.block k (by omega) fun hr' => ?_, hbl.block k (by omega), h.bel.block k hkl hr]
    obtain ⟨i, o, ho, hf⟩ := (zg6 h hb).1 hr'
    rcases h.new i o k ho hf with h1 | h1
    · omega
    · exact hr h1
theorem Sim.goIn (h : Sim w0 X n ⟨F, E, nx⟩ β a w) (hbl : Below w.heap.size w w1) (hex : ∀ g, ex g -> w.heap.size ≤ g ∧ g < w1.heap.size) (hb : zeh E K = true) (hKn : K ≤ nx) (hsz : a1.tmps.size = m) (hdf : a1.defers = []) (hfr : ∀ s, RepV w (OSet X E β) β (Frame.get F' s).t (Frame.get F' s).x (a1.tmps.getD s undef)) (hbd : bndB nx F' = true) :
    Sim w1 (inX X E β K ex) m ⟨F', E, nx⟩ β a1 w1 := by
  have hk : Keeps w w1 (OSet X E β) (OSet (inX X E β K ex) E β) := .of_below hbl fun g hg hg' => by
    rcases hg' with (h1 | h1) | h1
    · exact .inl h1
    · have := hex g h1; omega
    · exact .inr h1
  refine ⟨hsz, hdf, Kept.refl _ _, fun s => RepV.keep hk _ _ _ (hfr s), fun i o ho => (h.own i o ho).keep hk fun g hg => hbl.block g ((h.own i o ho).block_lt hg).2, fun i o g ho hg => .inr ((zg6 h hb).2 ⟨i, o, ho, hg⟩), h.inj, h.lt, ⟨hKn, fun i hi => ?_⟩, fun s => ze6 hbd s, h.hE⟩
  obtain ⟨o, ho, hob, hf⟩ := zgT h hb hi
  exact ⟨hf, fun o' ho' => by
    have ho' : Owns.get E i = some o' := ho'
    rw [ho] at ho'
    cases ho'
    exact hob⟩
theorem Sim.goOut (h : Sim w0 X n ⟨F, E, nx⟩ β a w) (hX : X.Ok w0) (hbl : Below w.heap.size w w1) (hex : ∀ g, ex g -> w.heap.size ≤ g ∧ g < w1.heap.size) (hb : zeh E K = true) (hK : X.K ≤ K) {σ : AS} {β' : Nat -> Value} {w' w'' : World} (h' : Sim w1 (inX X E β K ex) m σ β' a1 w') (hk : Kept ex w' w'') :
    Sim w0 X n ⟨zgD K F, σ.E, σ.nx⟩ β' a w'' := by
  have hok := zpR h hX hbl hex hb
  have hs0 := h.bel.size
  have hs1 := hbl.size
  have hs2 := h'.bel.size
  have hs3 := hk.size
  have hown : ∀ i o g, Owns.get σ.E i = some o -> zag (β' i) = some g -> w1.heap.size ≤ g ∨ ∃ i o, Owns.get E i = some o ∧ zag (β i) = some g := fun i o g ho hg => (h'.new i o g ho hg).imp id (zg6 h hb).1
  have hexo : ∀ i o g, Owns.get σ.E i = some o -> zag (β' i) = some g -> ¬ ex g := fun i o g ho hg he => by
    have h1 := hex g he
    rcases hown i o g ho hg with h2 | h2
    · omega
    · have := zfZ h h2
      omega
  have hβ : ∀ i, i < K -> zag (β' i) = zag (β i) := fun i hi => by
    obtain ⟨o, ho, _, hf⟩ := zgT h hb hi
    exact ((h'.fix.2 i hi).1).trans hf.symm
  have hk1 : Keeps w w'' (OSet X E β) (OSet X σ.E β') := by
    refine ⟨by omega, fun g hg hn => ?_, fun g hg hg' => ?_⟩
    · rw [hk.block g (by omega) fun he => ?_, h'.bel.block g (by omega) fun hr => ?_, hbl.block g hg]
      · exact hn (.inr ((zg6 h hb).1 hr))
      · have := hex g he; omega
    · rcases hg' with h1 | ⟨i, o, ho, hg'⟩
      · exact .inl h1
      · rcases hown i o g ho hg' with h2 | h2
        · omega
        · exact .inr h2
  have hk2 : Keeps w' w'' (OSet (inX X E β K ex) σ.E β') (OSet X σ.E β') := by
    refine ⟨hs3, fun g hg hn => hk.block g hg fun he => hn (.inl (.inr he)), fun g hg hg' => ?_⟩
    rcases hg' with h1 | h1
    · exact .inl (.inl h1)
    · exact .inr h1
  refine ⟨h.sz, h.df, ?_, fun s => ?_, fun i o ho => (h'.own i o ho).keep hk2 fun g hg => hk.block g ((h'.own i o ho).block_lt hg).2 (hexo i o g ho hg), fun i o g ho hg => ?_, h'.inj, h'.lt, ⟨Nat.le_trans hK h'.fix.1, fun i hi => ?_⟩, fun s => ?_, h'.hE⟩
  · refine ⟨hk.os.trans (h'.bel.os.trans (hbl.os.trans h.bel.os)), hk.tape.trans (h'.bel.tape.trans (hbl.tape.trans h.bel.tape)), hk.output.trans (h'.bel.output.trans (hbl.output.trans h.bel.output)), by omega, fun k hkl hr => ?_⟩
    rw [hk.block k (by omega) fun he => ?_, h'.bel.block k (by omega) fun hr' => ?_, hbl.block k (by omega), h.bel.block k hkl hr]
    · obtain ⟨i, o, ho, hf⟩ := (zg6 h hb).1 hr'
      rcases h.new i o k ho hf with h1 | h1
      · omega
      · exact hr h1
    · have := hex k he; omega
  · show RepV w'' (OSet X σ.E β') β' (Frame.get (zgD K F) s).t (Frame.get (zgD K F) s).x _
    rw [zgC]
    exact znv hk1 hβ (h.fr s)
  · rcases hown i o g ho hg with h2 | ⟨i', o', ho', hg'⟩
    · exact .inl (by omega)
    · exact h.new i' o' g ho' hg'
  · have hi : i < X.K := hi
    exact ⟨(hβ i (by omega)).trans (h.fix.2 i hi).1, (h'.fix.2 i (by show i < K; omega)).2⟩
  · show (Frame.get (zgD K F) s).bound ≤ σ.nx
    rw [zgC]
    exact Nat.le_trans (zj7 _) h'.fix.1
def Ends (e : Exit) (en : Ending) : Prop := ((e = .normal ∨ e = .ret) ∧ ∃ v, en = .returned v) ∨ ∃ ch, e = .panic ch ∧ en = .panicked ch
theorem Sim.inl {P : Program} (h : Sim w0 X n ⟨F, E, nx⟩ β a w) (hX : X.Ok w0) (hbl : Below w.heap.size w w1) (hex : ∀ g, ex g -> w.heap.size ≤ g ∧ g < w1.heap.size) (hb : zeh E K = true) (hKn : K ≤ nx) (hK : X.K ≤ K) {f : FuncId} {fn : Func} {c : Code} (hf : P.funcs[f]? = some fn) (hbd : fn.body = some c) (hn : fn.ntmps = m) (hres : fn.results = #[])
    {caps : Array Value} (hcl : caps.size ≤ m) (hfr : ∀ s, RepV w (OSet X E β) β (Frame.get F' s).t (Frame.get F' s).x ((caps ++ Array.replicate (m - caps.size) undef).getD s undef)) (hbF : bndB nx F' = true) {Q : Exit -> AS -> Prop} (hq : ∀ e σ, Q e σ -> e = .normal ∨ e = .ret ∨ ∃ ch, e = .panic ch)
    (hw : ∀ X' : Ownr, X'.Ok w1 -> X'.G = X.G -> X'.K = K -> X'.ρ = none -> X'.D = [] -> (∀ g, X'.R g -> w0.heap.size ≤ g ∨ X.R g) -> AWP P w1 X' m c ⟨F', E, nx⟩ Q) :
    Calls P f caps w1 fun en w' => w1.heap.size ≤ w'.heap.size ∧ (∀ g, ex g -> w'.heap[g]? = w1.heap[g]?) ∧ ∃ e σ, Ends e en ∧ Q e σ ∧ ∀ w'', Kept ex w' w'' -> ∃ β', Sim w0 X n ⟨zgD K F, σ.E, σ.nx⟩ β' a w'' := by
  refine calls_of_wp hf hbd ?_
  have hok := zpR h hX hbl hex hb
  have hsim := h.goIn (a1 := { tmps := caps ++ Array.replicate (fn.ntmps - caps.size) undef, defers := [] }) (m := m) hbl hex hb hKn (by simp [hn]; omega) rfl (by rw [hn]; exact hfr) hbF
  have hR : ∀ g, (inX X E β K ex).R g -> w0.heap.size ≤ g ∨ X.R g := fun g hg => by
    obtain ⟨i, o, ho, hf⟩ := (zg6 h hb).1 hg
    exact h.new i o g ho hf
  refine wp_mono (wpIn_wide.1 (hw _ hok rfl rfl rfl rfl hR β _ w1 hsim)) fun e a' w' ⟨σ, β', h', hQ⟩ => ?_
  have hkx : ∀ g, ex g -> w'.heap[g]? = w1.heap[g]? := fun g he => by
    have h1 := hex g he
    refine h'.bel.block g h1.2 fun hr => ?_
    have := zfZ h ((zg6 h hb).1 hr)
    omega
  have hfin : ∀ en, Ends e en -> w1.heap.size ≤ w'.heap.size ∧ (∀ g, ex g -> w'.heap[g]? = w1.heap[g]?) ∧ ∃ e σ, Ends e en ∧ Q e σ ∧ ∀ w'', Kept ex w' w'' -> ∃ β', Sim w0 X n ⟨zgD K F, σ.E, σ.nx⟩ β' a w'' := fun en he => ⟨h'.bel.size, hkx, e, σ, he, hQ, fun w'' hk => ⟨β', h.goOut hX hbl hex hb hK h' hk⟩⟩
  have hdf : a'.defers = [] := h'.df
  rcases hq e σ hQ with rfl | rfl | ⟨ch, rfl⟩
  · exact ⟨hdf, _, results_none hres _ _ _, hfin _ (.inl ⟨.inl rfl, _, rfl⟩)⟩
  · exact ⟨hdf, _, results_none hres _ _ _, hfin _ (.inl ⟨.inr rfl, _, rfl⟩)⟩
  · exact ⟨hdf, hfin _ (.inr ⟨ch, rfl, rfl⟩)⟩
end
section
variable {P : Program} {K : Kn} {w0 : World} {X : Ownr} {n : Nat} {σ : AS} {Q : Exit -> AS -> Prop} {ops : Array Oper}
theorem StepA.fresh (hX : X.Ok w0) {o : Oper} {f : FuncId} {c : FCtr} (hc : zli P X.G f c) {args : Array Operand} {ts : Array TypeId} (ho : o.op = .call ⟨.value (.func f), args, ts⟩) {zas : List Operand} (hargs : args.toList = zas) (hgd : o.guard = none)
    {F : Frame} {E : Owns} {nx : Nat} (hσ : frzs σ zas = ⟨F, E, nx⟩) (hd : zaY c.args = true) {q : List Prop} {xs : Args c.args} (hav : zdU E false (zas.map (evO F)) c.args = some (q, xs)) (hq : allP q) (hpre : allP (c.pre xs))
    (hbare : (c.obj xs).bare = true ∧ (c.obj xs).isBuf = false) {d : Nat} (hdst : o.dst = some d) (hdn : Nat.blt d n = true) {N : AS -> Prop} (h : N ⟨(d, zmY nx (c.obj xs)) :: F, (nx, some (c.obj xs)) :: E, nx + 1⟩) : StepA P w0 X n ops o σ N Q := by
  refine StepA.hand hgd fun β a w hs => ?_
  have h1 := hs.frzs hX zas
  rw [hσ] at h1
  obtain ⟨hen, hcall⟩ := hc
  have hvs : RepVs w (OSet X E β) β (zas.map (evO F)) (zas.map a.eval) := by
    refine ⟨by simp, fun i v hv => ?_⟩
    rw [List.getElem?_map] at hv
    obtain ⟨z, hz, rfl⟩ := Option.map_eq_some_iff.1 hv
    exact ⟨a.eval z, by rw [List.getElem?_map, hz]; rfl, h1.ops z⟩
  have ha := zcC (B := 0) h1.own hd hav hq hvs.2 hvs.1
  have ha : RepA w (OSet X E β) c.args xs (zas.map a.eval) := by
    have e : (fun k => false = false ∧ OSet X E β k) = OSet X E β := by funext k; simp
    rwa [e] at ha
  refine zew ho hen ?_
  rw [hargs]
  refine (hcall w _ xs _ (fun k hk => h1.hO hX k hk) ha hpre (hX.2.2 w h1.bel)).mono fun e w' ⟨g, he, hb, hng, hown⟩ => ?_
  refine ⟨_, he, ?_⟩
  have hlt : d < n := by simpa using hdn
  rw [hdst]
  obtain ⟨β', h2⟩ := h1.make hX hb (bv := .pointer (some ⟨g, 0, none⟩)) (o := c.obj xs) (fun O β' hO => hown O β' fun k hk => (hO k hk).imp id fun e => (Option.some.inj e).symm) (fun k hk => by
    have : g = k := by simpa [zag] using hk
    omega) (v := zmY nx (c.obj xs)) (u := .pointer (some ⟨g, 0, none⟩)) (fun O β' hβ => by
      have hbg : zag (β' nx) = some g := by rw [show β' nx = _ from hβ]; rfl
      cases ho : c.obj xs with
      | buf te t ys => have := hbare.2; rw [ho] at this; cases this
      | box t x => exact ⟨g, hbg, rfl⟩
      | hbox ty ys => exact ⟨g, hbg, rfl⟩) (by
      cases ho : c.obj xs with
      | buf te t ys => have := hbare.2; rw [ho] at this; cases this
      | box t x => exact Nat.le_refl _
      | hbox ty ys => exact Nat.le_refl _) hlt (OObj.bare_under hbare.1 _)
  exact ⟨_, β', h2, h⟩
theorem StepA.give (hX : X.Ok w0) {o : Oper} {f : FuncId} {c : HCtr} {out : c.self.T -> Args c.args -> Except Value c.res.T} (hc : ze9 P X.G f c out) {args : Array Operand} {ts : Array TypeId} {a0 : Operand} {zas : List Operand} (ho : o.op = .call ⟨.value (.func f), args, ts⟩) (hargs : args.toList = a0 :: zas) (hgd : o.guard = none)
    {F : Frame} {E : Owns} {nx : Nat} (hσ : frzs σ zas = ⟨F, E, nx⟩) {i : Nat} (hev : evO F a0 = ⟨.hptr, (i, (0 : Nat))⟩) {ty : TypeId} {vs : List V} (hbox : Owns.get E i = some (.hbox ty vs)) {et : Ty} {j : Nat} (hk : vs[c.k]? = some ⟨.obuf et, j⟩) {xsl : List c.et.T} (hbuf : Owns.get E j = some (.buf c.te c.et xsl))
    {x : c.self.T} (hun : unD c.self ((c.back i vs).set c.k ⟨.slice c.et, xsl⟩) = some (x, [])) (hd : zaY c.args = true) (hfl : c.res.resOk = true)
    {q : List Prop} {xs : Args c.args} (hav : zdU E false (zas.map (evO F)) c.args = some (q, xs)) (hq : allP q) (hpre : allP (c.pre x xs)) (hinv : ∀ w R, (∀ g, R g -> w0.heap.size ≤ g ∨ X.R g) -> X.G w -> c.inv w R ty) {d : Nat} (hdst : o.dst = some d) (hdn : Nat.blt d n = true)
    {N : AS -> Prop} (h : match out x xs with
      | .ok y => N ⟨(d, resV c.res y) :: F, (i, none) :: (j, none) :: E, nx⟩
      | .error pv => Q (.panic [{ v := pv, recovered := false }]) ⟨F, (i, none) :: (j, none) :: E, nx⟩) : StepA P w0 X n ops o σ N Q := by
  refine StepA.hand hgd fun β a w hs => ?_
  have h1 := hs.frzs hX zas
  rw [hσ] at h1
  obtain ⟨hen, hlaw, hcall⟩ := hc
  have hunH : unH c i vs E x := ⟨et, j, xsl, hk, hbuf, hun⟩
  have hsl : xsl = c.sl x := by
    obtain ⟨et', j', k1, k2, _, _⟩ := zdY hlaw hunH
    rw [hk] at k1
    cases k1
    rw [hbuf] at k2
    cases k2
    rfl
  subst hsl
  have hv := h1.ops a0
  rw [show evO (AS.mk F E nx).F a0 = _ from hev] at hv
  obtain ⟨g, hg1, hg2⟩ := hv
  obtain ⟨g', cs, e1, _, e3, e4⟩ := h1.own _ _ hbox
  have hgg : g' = g := by
    have hg1 : zag (β i) = some g := hg1
    rw [e1] at hg1
    simpa [zag] using hg1
  subst hgg
  have hij : i ≠ j := fun e => by rw [e, hbuf] at hbox; cases hbox
  have hbj := h1.own _ _ hbuf
  have hOg : OSet X E β g' := .inr ⟨_, _, hbox, by rw [e1]; rfl⟩
  have hgb : zag (β j) ≠ some g' := h1.inj i j _ _ hbox hbuf hij g' (by rw [e1]; rfl)
  obtain ⟨O, hO⟩ : ∃ O : Nat -> Prop, O = fun k => OSet X E β k ∧ k ≠ g' ∧ zag (β j) ≠ some k := ⟨_, rfl⟩
  have hset : zbj O g' (β j) = OSet X E β := by
    funext k
    apply propext
    rw [hO]
    constructor
    · rintro ((hk | rfl) | hk)
      · exact hk.1
      · exact hOg
      · exact .inr ⟨j, _, hbuf, hk⟩
    · intro hk
      by_cases e : k = g'
      · exact .inl (.inr e)
      · by_cases e' : zag (β j) = some k
        · exact .inr e'
        · exact .inl (.inl ⟨hk, e, e'⟩)
  have hvs : RepVs w (OSet X E β) β (zas.map (evO F)) (zas.map a.eval) := by
    refine ⟨by simp, fun i v hv => ?_⟩
    rw [List.getElem?_map] at hv
    obtain ⟨z, hz, rfl⟩ := Option.map_eq_some_iff.1 hv
    exact ⟨a.eval z, by rw [List.getElem?_map, hz]; rfl, h1.ops z⟩
  have ha := zcC (B := 0) h1.own hd hav hq hvs.2 hvs.1
  have ha : RepA w (zbj O g' (β j)) c.args xs (zas.map a.eval) := by
    rw [hset]
    have e : (fun k => false = false ∧ OSet X E β k) = OSet X E β := by funext k; simp
    rwa [e] at ha
  have hK0 : Keeps w w (OSet X E β) (zbj O g' (β j)) := by rw [hset]; exact Keeps.refl _ _
  have hlv : RepH w (zbj O g' (β j)) (zcv g' (β j)) (c.lv 0 1 x) cs := RepH.toLv hlaw hK0 hunH e4 (fun j' et' hj' => by
    rw [hk] at hj'
    cases hj'
    rfl) (by rw [e1]; rfl)
  have hbuf2 : OwnRep w (zbj O g' (β j)) (zcv g' (β j)) 0 (β j) (.buf c.te c.et (c.sl x)) := hbj.keep hK0 fun _ _ => rfl
  have hOk : ∀ k, O k -> k < w.heap.size ∧ k ≠ g' ∧ zag (β j) ≠ some k := fun k hk => by
    rw [hO] at hk
    exact ⟨h1.hO hX k hk.1, hk.2⟩
  have hR : ∀ k, (k = g' ∨ zag (β j) = some k) -> w0.heap.size ≤ k ∨ X.R k := fun k hk => by
    rcases hk with rfl | hk
    · exact h1.new _ _ k hbox (by rw [e1]; rfl)
    · exact h1.new _ _ k hbuf hk
  have hcl := hcall w O g' cs ty x xs _ (β j) hOk hgb e3 hlv hbuf2 ha hpre (hinv w _ hR (hX.2.2 w h1.bel)) (hX.2.2 w h1.bel)
  have hrun : (execOp a.eval o).run P w = .ok (.enter f (Value.pointer (some ⟨g', 0, none⟩) :: zas.map a.eval).toArray) w := by
    have em : args.map a.eval ++ #[] = (Value.pointer (some ⟨g', 0, none⟩) :: zas.map a.eval).toArray := by
      rw [<- zcU, hargs, List.map_cons, hg2]
      simp
    have hx : a.eval (.func f) = .func (.func f) #[] #[] := rfl
    rw [<- em]
    unfold execOp
    simp [ho, resolve, invoke, Deferred.ofValue, hx, hen]
  unfold Oper.wp
  rw [hrun]
  refine hcl.mono fun e w' hr => ?_
  obtain ⟨hkp, hr⟩ := hr
  have hl2 := h1.lose2 (w' := w') hbox hbuf ⟨hkp.os, hkp.tape, hkp.output, hkp.size, fun k hkl hn => hkp.block k hkl fun hk => hn (hk.elim (fun e => .inl (by rw [e1, e]; rfl)) .inr)⟩
  revert hr h
  cases out x xs with
  | error pv =>
    intro h
    rintro rfl
    exact ⟨fun e => (by cases e), _, β, hl2, h⟩
  | ok y =>
    intro h
    rintro ⟨v, rfl, hres⟩
    have hlt : d < n := by simpa using hdn
    have hkp2 : Keeps w' w' O (OSet X ((i, none) :: (j, none) :: E) β) := ⟨Nat.le_refl _, fun _ _ _ => rfl, fun k _ hk2 => by
      rw [hO]
      rcases hk2 with hk2 | ⟨m, om, hm, hbm⟩
      · have h3 := hX.1 k hk2
        refine ⟨.inl hk2, fun e => ?_, fun e => ?_⟩
        · rcases hR k (.inl e) with h4 | h4
          · omega
          · exact h3.2 h4
        · rcases hR k (.inr e) with h4 | h4
          · omega
          · exact h3.2 h4
      · rw [zaf, zaf] at hm
        by_cases him : i = m
        · rw [if_pos him] at hm; cases hm
        · rw [if_neg him] at hm
          by_cases hjm : j = m
          · rw [if_pos hjm] at hm; cases hm
          · rw [if_neg hjm] at hm
            refine ⟨.inr ⟨m, om, hm, hbm⟩, fun e => ?_, fun e => ?_⟩
            · exact h1.inj i m _ om hbox hm him k (by rw [e1, e]; rfl) hbm
            · exact h1.inj j m _ om hbuf hm hjm k e hbm⟩
    show ∃ σ' β', Sim w0 X n σ' β' (a.put o.dst v) w' ∧ _
    rw [hdst]
    exact ⟨_, β, hl2.put (Below.refl _ _) (RepV.keep hkp2 _ _ _ (zeH (β := β) _ hfl hres)) (zdq _ hfl _) hlt, h⟩
theorem StepA.giveO (hX : X.Ok w0) {o : Oper} {f : FuncId} {c : HCtr} {out : c.self.T -> Args c.args -> Except Value c.res.T} (hc : ze9 P X.G f c out) {args : Array Operand} {ts : Array TypeId} {a0 : Operand} {zas : List Operand} (ho : o.op = .call ⟨.value (.func f), args, ts⟩) (hargs : args.toList = a0 :: zas) (hgd : o.guard = none)
    {F : Frame} {E : Owns} {nx : Nat} (hσ : frzs σ zas = ⟨F, E, nx⟩) {i : Nat} (hev : evO F a0 = ⟨.hptr, (i, (0 : Nat))⟩) {ty : TypeId} {vs : List V} (hbox : Owns.get E i = some (.hbox ty vs)) {et : Ty} {j : Nat} (hk : vs[c.k]? = some ⟨.obuf et, j⟩) {xsl : List c.et.T} (hbuf : Owns.get E j = some (.buf c.te c.et xsl))
    {x : c.self.T} (hun : unD c.self ((c.back i vs).set c.k ⟨.slice c.et, xsl⟩) = some (x, [])) (hd : zaY c.args = true) (hfl : c.res.resOk = true)
    {q : List Prop} {xs : Args c.args} (hav : zdU E false (zas.map (evO F)) c.args = some (q, xs)) (hq : allP q) (hpre : allP (c.pre x xs)) (hinv : ∀ w R, (∀ g, R g -> w0.heap.size ≤ g ∨ X.R g) -> X.G w -> c.inv w R ty) {d : Nat} (hdst : o.dst = some d) (hdn : Nat.blt d n = true)
    {N : AS -> Prop} {y : c.res.T} (hout : out x xs = .ok y) (h : N ⟨(d, resV c.res y) :: F, (i, none) :: (j, none) :: E, nx⟩) : StepA P w0 X n ops o σ N Q :=
  StepA.give hX hc ho hargs hgd hσ hev hbox hk hbuf hun hd hfl hav hq hpre hinv hdst hdn (by rw [hout]; exact h)
theorem StepA.giveE (hX : X.Ok w0) {o : Oper} {f : FuncId} {c : HCtr} {out : c.self.T -> Args c.args -> Except Value c.res.T} (hc : ze9 P X.G f c out) {args : Array Operand} {ts : Array TypeId} {a0 : Operand} {zas : List Operand} (ho : o.op = .call ⟨.value (.func f), args, ts⟩) (hargs : args.toList = a0 :: zas) (hgd : o.guard = none)
    {F : Frame} {E : Owns} {nx : Nat} (hσ : frzs σ zas = ⟨F, E, nx⟩) {i : Nat} (hev : evO F a0 = ⟨.hptr, (i, (0 : Nat))⟩) {ty : TypeId} {vs : List V} (hbox : Owns.get E i = some (.hbox ty vs)) {et : Ty} {j : Nat} (hk : vs[c.k]? = some ⟨.obuf et, j⟩) {xsl : List c.et.T} (hbuf : Owns.get E j = some (.buf c.te c.et xsl))
    {x : c.self.T} (hun : unD c.self ((c.back i vs).set c.k ⟨.slice c.et, xsl⟩) = some (x, [])) (hd : zaY c.args = true) (hfl : c.res.resOk = true)
    {q : List Prop} {xs : Args c.args} (hav : zdU E false (zas.map (evO F)) c.args = some (q, xs)) (hq : allP q) (hpre : allP (c.pre x xs)) (hinv : ∀ w R, (∀ g, R g -> w0.heap.size ≤ g ∨ X.R g) -> X.G w -> c.inv w R ty) {d : Nat} (hdst : o.dst = some d) (hdn : Nat.blt d n = true)
    {N : AS -> Prop} {pv : Value} (hout : out x xs = .error pv) (h : Q (.panic [{ v := pv, recovered := false }]) ⟨F, (i, none) :: (j, none) :: E, nx⟩) : StepA P w0 X n ops o σ N Q :=
  StepA.give hX hc ho hargs hgd hσ hev hbox hk hbuf hun hd hfl hav hq hpre hinv hdst hdn (by rw [hout]; exact h)
theorem StepA.conv {o : Oper} {σ' : AS} {N : AS -> Prop} (hs : ∀ β a w, Sim w0 X n σ β a w -> ∃ β', Sim w0 X n σ' β' a w) (h : StepA P w0 X n ops o σ' N Q) : StepA P w0 X n ops o σ N Q :=
  fun β a w I R hsim hI hR => by
    obtain ⟨β', h'⟩ := hs β a w hsim
    exact h β' a w I R h' hI hR
theorem Sim.nilLeaf (i k : Nat) (te : TypeId) (τ : Ty) {ty : TypeId} {vs : List V} (hi : Owns.get σ.E i = some (.hbox ty vs)) (hk : vs[k]? = some ⟨.lit, .slice none 0 0⟩) (hτ : Nat.blt 0 τ.size = true) :
    ∀ β a w, Sim w0 X n σ β a w -> ∃ β', Sim w0 X n { σ with E := (i, some (.hbox ty (vs.set k ⟨.obuf τ, σ.nx⟩))) :: (σ.nx, some (.buf te τ [])) :: σ.E, nx := σ.nx + 1 } β' a w := by
  intro β a w hs
  obtain ⟨β', h1, h2, h3⟩ := hs.growNil te τ (by simpa using hτ)
  have hlt := hs.lt i _ hi
  have hi' : Owns.get ((σ.nx, some (.buf te τ [])) :: σ.E) i = some (.hbox ty vs) := by rw [zaf, if_neg (by omega)]; exact hi
  exact ⟨β', h3.leaf hi' hk (v' := ⟨.obuf τ, σ.nx⟩) (fun u hu => by
    have hu : u = .slice none 0 0 := hu
    show u = β' σ.nx
    rw [hu, h2]) (Nat.le_refl _)⟩
theorem AL.nilLeaf (i k : Nat) (te : TypeId) (τ : Ty) {ty : TypeId} {vs : List V} {l : List Oper} (hi : Owns.get σ.E i = some (.hbox ty vs)) (hk : vs[k]? = some ⟨.lit, .slice none 0 0⟩) (hτ : Nat.blt 0 τ.size = true)
    (h : AL P w0 X n ops l { σ with E := (i, some (.hbox ty (vs.set k ⟨.obuf τ, σ.nx⟩))) :: (σ.nx, some (.buf te τ [])) :: σ.E, nx := σ.nx + 1 } Q) : AL P w0 X n ops l σ Q := fun β a w hs => by
  obtain ⟨β', h'⟩ := Sim.nilLeaf i k te τ hi hk hτ β a w hs
  exact h β' a w h'
theorem StepA.guardT (j s : Nat) (b : Bool) {o : Oper} {N : AS -> Prop} (hg : o.guard = some (j, b)) (hd : (ops[j]?).bind (·.dst) = some s) (hs : Frame.get σ.F s = ⟨.bool, b⟩) (hsn : Nat.blt s n = true) (h : StepA P w0 X n ops { o with guard := none } σ N Q) : StepA P w0 X n ops o σ N Q := by
  intro β a w I R hsim hI hR
  have h1 := h β a w I R hsim hI hR
  have hv : a.tmps.getD s undef = .bool b := by
    have h2 := hsim.fr s
    rw [hs] at h2
    exact RepV.bool h2
  have hsz : s < a.tmps.size := by rw [hsim.sz]; simpa using hsn
  have hy : yielded ops a.tmps j = some b := by
    unfold yielded
    rw [hd]
    have : a.tmps[s]? = some (.bool b) := by
      rw [Array.getD_eq_getD_getElem?, Array.getElem?_eq_getElem hsz] at hv
      rw [Array.getElem?_eq_getElem hsz]
      exact congrArg some hv
    simp [this]
  have hw : Region.wanted o (yielded ops a.tmps) = true := by simp [Region.wanted, hg, hy]
  have hw' : Region.wanted { o with guard := none } (yielded ops a.tmps) = true := by simp [Region.wanted]
  show if Region.wanted o (yielded ops a.tmps) = true then _ else _
  have h1 : if Region.wanted { o with guard := none } (yielded ops a.tmps) = true then _ else _ := h1
  rw [if_pos hw'] at h1
  rw [if_pos hw]
  exact h1
theorem StepA.guardF (j s : Nat) (b : Bool) (t : Ty) (y : t.T) {o : Oper} {N : AS -> Prop} (hg : o.guard = some (j, b)) (hd : (ops[j]?).bind (·.dst) = some s) (hs : Frame.get σ.F s = ⟨.bool, !b⟩) (hsn : Nat.blt s n = true) {d : Nat} (hdst : o.dst = some d) (hdn : Nat.blt d n = true) (h : N ⟨(d, ⟨.cond t, (false, y)⟩) :: σ.F, σ.E, σ.nx⟩) (hb : bnd t y = 0 := by rfl) : StepA P w0 X n ops o σ N Q := by
  intro β a w I R hsim hI hR
  have hv : a.tmps.getD s undef = .bool (!b) := by
    have h2 := hsim.fr s
    rw [hs] at h2
    exact RepV.bool h2
  have hsz : s < a.tmps.size := by rw [hsim.sz]; simpa using hsn
  have hy : yielded ops a.tmps j = some (!b) := by
    unfold yielded
    rw [hd]
    have : a.tmps[s]? = some (.bool (!b)) := by
      rw [Array.getD_eq_getD_getElem?, Array.getElem?_eq_getElem hsz] at hv
      rw [Array.getElem?_eq_getElem hsz]
      exact congrArg some hv
    simp [this]
  have hw : ¬ Region.wanted o (yielded ops a.tmps) = true := by simp [Region.wanted, hg, hy]
  show if Region.wanted o (yielded ops a.tmps) = true then _ else _
  rw [if_neg hw, hdst]
  exact hI _ β _ _ (hsim.put (Below.refl _ _) (v := ⟨.cond t, (false, y)⟩) ⟨fun h => (by cases h), fun _ => rfl⟩ (by rw [show V.bound ⟨.cond t, (false, y)⟩ = bnd t y from rfl, hb]; exact Nat.zero_le _) (by simpa using hdn)) h
def rnK (L : List (Nat × Nat)) : Nat -> Bool
  | 0 => true
  | k + 1 => Nat.beq (rnF L k) k && rnK L k
theorem zmP {L : List (Nat × Nat)} : ∀ {k : Nat}, rnK L k = true -> ∀ i, i < k -> rnF L i = i
  | 0, _, i, hi => absurd hi (Nat.not_lt_zero _)
  | k + 1, h, i, hi => by
    have h : (Nat.beq (rnF L k) k && rnK L k) = true := h
    rw [Bool.and_eq_true] at h
    by_cases e : i = k
    · subst e; exact Nat.eq_of_beq_eq_true h.1
    · exact zmP h.2 i (by omega)
theorem Sim.renameK {w : World} {β : Nat -> Value} {a : Act} {L : List (Nat × Nat)} (h : Sim w0 X n σ β a w) (hL : rnOk L = true) {m : Nat} (hKL : rnK L X.K = true) (hKm : X.K ≤ m) (hF : bndB m (rnFr L σ.F) = true) (hE : bndE m (rnE L σ.E) = true) : Sim w0 X n ⟨rnFr L σ.F, rnE L σ.E, m⟩ (fun j => β (rnB L j)) a w := by
  have hO : ∀ g, OSet X (rnE L σ.E) (fun j => β (rnB L j)) g -> OSet X σ.E β g := by
    rintro g (hg | ⟨j, o', h1, h2⟩)
    · exact .inl hg
    · obtain ⟨o, _, h4, _⟩ := zel hL _ _ _ h1
      exact .inr ⟨_, o, h4, h2⟩
  have hk : Keeps w w (OSet X σ.E β) (OSet X (rnE L σ.E) (fun j => β (rnB L j))) := ⟨Nat.le_refl _, fun _ _ _ => rfl, fun g _ hg => hO g hg⟩
  have hb : ∀ i, i < X.K -> rnB L i = i := fun i hi => by
    have := zly L i hL
    rwa [zmP hKL i hi] at this
  refine ⟨h.sz, h.df, h.bel, fun s => ?_, fun j o' hj => ?_, fun j o' g hj hg => ?_, fun i j oi oj hi hj hij g => ?_, fun j o' hj => zlg hE hj, ⟨hKm, fun i hi => ?_⟩, fun s => ze6 hF s, fun j o' hj => (zgV hE hj).2⟩
  · show RepV w _ _ (Frame.get (rnFr L σ.F) s).t (Frame.get (rnFr L σ.F) s).x _
    rw [zoJ]
    exact zmN hL _ (RepV.keep hk _ _ _ (h.fr s))
  · obtain ⟨o, _, h2, rfl⟩ := zel hL _ _ _ hj
    have h3 := (h.own _ o h2).keep hk fun _ _ => rfl
    cases o with
    | hbox ty vs =>
      obtain ⟨g, cs, e, k1, k2, k3⟩ := h3
      exact ⟨g, cs, e, k1, k2, zkB hL k3⟩
    | box t x => exact h3
    | buf te t xs => exact h3
  · obtain ⟨o, _, h2, _⟩ := zel hL _ _ _ hj
    exact h.new _ o g h2 hg
  · obtain ⟨p, e1, h1, _⟩ := zel hL _ _ _ hi
    obtain ⟨q, e2, h2, _⟩ := zel hL _ _ _ hj
    exact h.inj _ _ p q h1 h2 (fun e => hij (by rw [e1, e2, e])) g
  · obtain ⟨k1, k2⟩ := h.fix.2 i hi
    refine ⟨by show zag (β (rnB L i)) = _; rw [hb i hi]; exact k1, fun o' ho' => ?_⟩
    obtain ⟨o, _, h2, rfl⟩ := zel hL _ _ _ ho'
    rw [hb i hi] at h2
    rw [zmO]
    exact k2 o h2
end
end Go.Proofs.YtpeaigpfddalcaaGreatDoor
namespace Go.Proofs.YtpeaigpfddalcaaGreatDoor
end Go.Proofs.YtpeaigpfddalcaaGreatDoor
