/-
  A range over a function whose rounds may panic; the function that holds it is known by its number. No program is read here.
-/
import Derived.Test.YthhphphdbgkdgaaDoorAbsPan
import Derived.Test.YthhphphdbgkdgaaDoorAbsMore
namespace Go.Proofs.YthhphphdbgkdgaaDoor
open Go Go.RowKit
set_option linter.unusedSimpArgs false
set_option linter.unusedVariables false
section
variable {P : Program} {f : FuncId} {Q : Exit → Act → World → Prop} {a : Act} {w : World}
/-- as 'wpIn Fence.wide', of the frames of one function -/
def wpFor (P : Program) (f : FuncId) (c : Code) (Q : Exit → Act → World → Prop) (a : Act) (w : World) : Prop :=
  ∀ (b : Go.Frame) (k : List Item) (cs : List Go.Frame), b.fn = f → b.roundOf = none → ∃ e a' w', Q e a' w' ∧ ArrivesIn (Machine.fenced P Fence.wide) P (lone (b.atR a (.code c :: k)) cs w) b k cs e a' w'
theorem wpFor_of {m : Nat} {c : Code} (h : c.wpIn Fence.wide m P Q a w) : wpFor P f c Q a w := fun b k cs _ hro => h b k cs hro trivial (room_wide _)
theorem wpFor_mono {c : Code} {Q' : Exit → Act → World → Prop} (h : wpFor P f c Q a w) (hq : ∀ e a w, Q e a w → Q' e a w) : wpFor P f c Q' a w :=
  fun b k cs hb hro => let ⟨e, a', w', q, r⟩ := h b k cs hb hro; ⟨e, a', w', hq _ _ _ q, r⟩
theorem wpFor_seq {x y : Code} (h : wpFor P f x (Exit.then (wpFor P f y Q) Q) a w) : wpFor P f (.seq x y) Q a w := by
  intro b k cs hb hro
  have h0 : (lone (b.atR a (.code (.seq x y) :: k)) cs w).fenced P Fence.wide := fenced_wide P _
  obtain ⟨e, a1, w1, hq, harr⟩ := h b (.code y :: k) cs hb hro
  cases e with
  | normal =>
    obtain ⟨e2, a2, w2, hq2, harr2⟩ := hq b k cs hb hro
    exact ⟨e2, a2, w2, hq2, .of_steps (.head h0 stepR_seq harr) harr2⟩
  | _ => exact ⟨_, a1, w1, hq, .of_steps (.one h0 stepR_seq) (.pass (x := .code y) rfl (fun _ _ => .inl (by simp)) harr)⟩
theorem wpFor_block {id : Nat} {c : Code} (h : wpFor P f c (fun e a w => (e = .normal ∨ ∃ ch, e = .panic ch) ∧ Q e a w) a w) : wpFor P f (.block id c) Q a w := by
  intro b k cs hb hro
  have h0 : (lone (b.atR a (.code (.block id c) :: k)) cs w).fenced P Fence.wide := fenced_wide P _
  obtain ⟨e, a1, w1, ⟨he, hq⟩, harr⟩ := h b (.inBlock id :: k) cs hb hro
  rcases he with rfl | ⟨ch, rfl⟩
  · exact ⟨.normal, a1, w1, hq, .head h0 stepR_block (StepsIn.trans harr (.one (fenced_wide P _) stepR_inBlock))⟩
  · exact ⟨_, a1, w1, hq, .of_steps (.one h0 stepR_block) harr⟩
/-- a round that ends or panics -/
theorem round_pan {l m : Nat} {tmps : Array Value} {assign body : Code} {R : Ending → World → Prop} (hf : ∃ fn, P.funcs[f]? = some fn)
    (h : assign.wpIn (Fence.wide.inRound l) m P (Exit.then (fun a1 w1 => ∃ w2, (Instr.beginRound l).run P w1 = .ok () w2 ∧ body.wpIn (Fence.wide.inRound l) m P
      (fun e a w => (e = .normal ∧ ∃ v w', (Instr.endRound l none).run P w = .ok v w' ∧ R (.returned v) w') ∨ ∃ ch, e = .panic ch ∧ a.defers = [] ∧ R (.panicked ch) w) a1 w2) (fun _ _ _ => False)) { tmps := tmps, defers := [] } w) :
    RoundIn Fence.wide m P l f tmps assign body w R := by
  refine ⟨trivial, fun c cs _ => ?_⟩
  let b : Go.Frame := { (default : Go.Frame) with fn := f, kind := .normal, roundOf := some l }
  have hb0 : Go.Frame.round l f tmps assign body .normal = b.atR { tmps := tmps, defers := [] } [.code assign, .beginRound, .code body] := by
    simp [Go.Frame.round, Go.Frame.atR, b]
  obtain ⟨e, a1, w1, hq, harr⟩ := h b [.beginRound, .code body] (c :: cs) rfl trivial (by intro d hd; cases hd)
  rw [← hb0] at harr
  cases e with
  | normal =>
    obtain ⟨w2, hbr, hbody⟩ := hq
    have s1 : StepsIn (Machine.fenced P (Fence.wide.inRound l)) P (lone (b.atR a1 [.beginRound, .code body]) (c :: cs) w1) (lone (b.atR a1 [.code body]) (c :: cs) w2) :=
      .one (fenced_wide P _) (stepR_beginRound rfl hbr)
    obtain ⟨e2, a2, w3, hq2, harr2⟩ := hbody b [] (c :: cs) rfl trivial (by intro d hd; cases hd)
    rcases hq2 with ⟨rfl, v, w4, hend, hR⟩ | ⟨ch, rfl, hd, hR⟩
    · exact ⟨.returned v, w4, hR, (StepsIn.trans harr s1).trans (StepsIn.trans harr2 (.one (fenced_wide P _) (stepR_round_end rfl rfl hend)))⟩
    · obtain ⟨todo, hs⟩ := harr2
      refine ⟨.panicked ch, w3, hR, (StepsIn.trans harr s1).trans (StepsIn.trans hs (.one (fenced_wide P _) (step_leave_panicked ?_)))⟩
      exact ⟨rfl, hd, hf⟩
  | _ => exact hq.elim
/-- the statement, in a function that is known -/
theorem wpFor_rangeFunc {g : Operand} {ps : Array Tmp} {assign body : Code} {m : Nat}
    (h : ∃ (l : Nat) (mark : List Deferred) (w1 : World) (d : Deferred) (w1' : World) (gf : FuncId) (args : Array Value) (w2 : World),
      (Instr.enterLoop f a.tmps ps assign body none).run P w = .ok (l, mark) w1 ∧ (resolve a.eval (rangeCall g l) 0).run P w1 = .ok d w1' ∧ (invoke d.target d.args).run P w1' = .ok (.enter gf args) w2 ∧
      CallsIn Fence.wide m P gf args w2 (fun e w3 => match e with
        | .returned _ => ∃ w4, (Instr.endLoop l).run P w3 = .ok none w4 ∧ Q .normal { a with defers := mark ++ a.defers } w4
        | .panicked ch => Q (.panic ch) { a with defers := mark ++ a.defers } w3
        | .outgrown => False)) :
    wpFor P f (.rangeFunc g ps assign body) Q a w := by
  intro b k cs hb hro
  obtain ⟨l, mark, w1, d, w1', gf, args, w2, he, hres, hinv, _, hcall⟩ := h
  rw [← hro, ← hb] at he
  have henter := stepR_rangeFunc (P := P) (b := b) (a := a) (k := k) (cs := cs) (w := w) he hres hinv
  obtain ⟨e, w3, fr, hR, hsteps, hfn, hleave⟩ := hcall (b.atR { a with defers := mark ++ a.defers } (.inRangeFunc l :: k) :: cs) (room_wide _)
  cases e with
  | outgrown => exact hR.elim
  | returned v =>
    obtain ⟨w4, hend, hj⟩ := hR
    refine ⟨.normal, _, w4, hj, .head (fenced_wide P _) henter (StepsIn.trans hsteps (.head (fenced_wide P _) ?_ (.one (fenced_wide P _) (stepR_endRangeFunc hend))))⟩
    rw [← finish_atR_inRangeFunc l v]
    exact step_leave_returned hleave
  | panicked chain =>
    refine ⟨.panic chain, _, w3, hR, .inRangeFunc l :: k, .head (fenced_wide P _) henter (StepsIn.trans hsteps (.one (fenced_wide P _) ?_))⟩
    rw [← Frame.raise_atR]
    exact step_leave_panicked hleave
/-- a function's contract out of its body -/
theorem calls_of_wpFor {fn : Func} {c : Code} {args : Array Value} {m : Nat} {R : Ending → World → Prop} (hf : P.funcs[f]? = some fn) (hb : fn.body = some c)
    (h : wpFor P f c (bodyPostM Fence.wide m P fn R) { tmps := args ++ Array.replicate (fn.ntmps - args.size) undef, defers := [] } w) : CallsIn Fence.wide m P f args w R := by
  refine ⟨trivial, fun cs hr => ?_⟩
  let b : Go.Frame := { (default : Go.Frame) with fn := f, kind := .normal, roundOf := none }
  have henter : Go.Frame.enter P f args .normal = b.atR { tmps := args ++ Array.replicate (fn.ntmps - args.size) undef, defers := [] } [.code c] := by
    simp [Go.Frame.enter, Go.Frame.atR, hf, hb, b]
  obtain ⟨e, a', w', hq, harr⟩ := h b [] cs rfl rfl
  rw [← henter] at harr
  cases e with
  | normal =>
    obtain ⟨e', w'', fr', hR, hs, hfn, hl⟩ := leaves_stepsInM a'.defers .returning w' { b.atR a' [] with mode := .returning } cs rfl rfl rfl hf rfl trivial hr hq
    exact ⟨e', w'', fr', hR, ComesIn.of_steps (StepsIn.trans harr (.one (fenced_wide P _) (stepR_end rfl))) hs, hfn, hl⟩
  | ret =>
    obtain ⟨todo, hs0⟩ := harr.1 rfl
    obtain ⟨e', w'', fr', hR, hs, hfn, hl⟩ := leaves_stepsInM a'.defers .returning w' { b.atR a' todo with mode := .returning } cs rfl rfl rfl hf rfl trivial hr hq
    exact ⟨e', w'', fr', hR, ComesIn.of_steps hs0 hs, hfn, hl⟩
  | panic chain =>
    obtain ⟨todo, hs0⟩ := harr
    obtain ⟨e', w'', fr', hR, hs, hfn, hl⟩ := leaves_stepsInM a'.defers (.panicking chain) w' { b.atR a' todo with mode := .panicking chain } cs rfl rfl rfl hf rfl trivial hr hq
    exact ⟨e', w'', fr', hR, ComesIn.of_steps hs0 hs, hfn, hl⟩
  | exit id => exact hq.elim
  | goto l => exact hq.elim
  | outgrown => exact ⟨.outgrown, w', b, hq, harr.resolve_left (by simp [b]), rfl, trivial⟩
end
theorem Kept.mono {R R' : Nat → Prop} {w w' : World} (h : Kept R w w') (hr : ∀ k, R k → R' k) : Kept R' w w' := ⟨h.os, h.tape, h.output, h.size, fun k hk hn => h.block k hk fun hR => hn (hr k hR)⟩
theorem Kept.trans {R : Nat → Prop} {a b c : World} (h : Kept R a b) (k : Kept R b c) : Kept R a c := ⟨k.os.trans h.os, k.tape.trans h.tape, k.output.trans h.output, Nat.le_trans h.size k.size, fun i hi hr => (k.block i (Nat.lt_of_lt_of_le hi h.size) hr).trans (h.block i hi hr)⟩
theorem kept_putObj {R : Nat → Prop} {W : World} {l : Nat} (o' : Obj) (hR : R l) : Kept R W (W.putObj l o') :=
  have hg := grownBy_putObj' W l o'
  ⟨hg.os, hg.tape, hg.output, hg.size, fun k hk hn => hg.block k hk fun e => by cases e; exact hn hR⟩
theorem kept_of_below {B : Nat} {R : Nat → Prop} {w w' : World} (h : Below B w w') (hR : ∀ k, B ≤ k → R k) : Kept R w w' := ⟨h.os, h.tape, h.output, h.size, fun k _ hn => h.block k (Nat.lt_of_not_le fun hk => hn (hR k hk))⟩
/-- these blocks lie as they lay -/
structure SameOn (I : Nat → Prop) (N : Nat) (w w' : World) : Prop where
  os : w'.os = w.os
  tape : w'.tape = w.tape
  output : w'.output = w.output
  size : N ≤ w'.heap.size
  block : ∀ k, I k → w'.heap[k]? = w.heap[k]?
/-- the iterator's word: it hands out these texts, as long as no round panics; I: blocks of its own -/
def SeqPan (P : Program) (m : Nat) (gf : Nat) (lb : Array Value) (I : Nat → Prop) (ts : List (List UInt8)) (w : World) : Prop :=
  ∀ (l : Nat) (J : Nat → World → Prop) (Jp : List PanicEntry → World → Prop) (W : World), Below w.heap.size w W → (∀ k A C, J k A → Kept I A C → J k C) →
    (∀ k y W1, J k W1 → ts[k]? = some y → W.heap.size ≤ W1.heap.size → YieldAt Fence.wide (m - 1) P l #[.string ⟨List.toArray y⟩] W1 fun e W' => (e = .returned (.bool true) ∧ J (k + 1) W' ∧ SameOn I W.heap.size W1 W') ∨ ∃ ch, e = .panicked ch ∧ Jp ch W') →
    J 0 W →
    CallsIn Fence.wide m P gf (#[.func (.yield l) #[] #[]] ++ lb) W fun e W' => ((∃ v, e = .returned v) ∧ J ts.length W') ∨ ∃ ch, e = .panicked ch ∧ Jp ch W'
/-- the caller's law -/
theorem wpFor_rangePan {P : Program} {f : FuncId} {m : Nat} {g : Operand} {p : Tmp} {assign body : Code} {Q : Exit → Act → World → Prop} {a : Act} {w : World} {gf : Nat} {lb : Array Value} (hfn : ∃ fn, P.funcs[f]? = some fn) (hg : a.eval g = .func (.func gf) #[] lb) (eg : ∀ args w, (callFunc gf args).run P w = .ok (.enter gf args) w)
    {I : Nat → Prop} {ts : List (List UInt8)} {w0 : World} (hseq : SeqPan P m gf lb I ts w0) (hb0 : Below w0.heap.size w0 w) (hI : ∀ k, I k → k < w.heap.size)
    (J : Nat → World → Prop) (Jp : List PanicEntry → World → Prop) (hJ : ∀ k A C, J k A → Kept (fun g => I g ∨ g = w.heap.size ∨ g = w.heap.size + 1) A C → J k C) (h0 : ∀ W1 : World, Below w.heap.size w W1 → W1.heap.size = w.heap.size + 2 → J 0 W1) (a1 : Value → Act)
    (hassign : ∀ (l : Nat) (x : Value) (W : World) (K : Act → World → Prop), K (a1 x) W → assign.wpIn (Fence.wide.inRound l) (m - 1) P (Exit.then K (fun _ _ _ => False)) { tmps := ((#[p] : Array Tmp).zip #[x]).foldl (fun t (p, v) => t.setIfInBounds p v) a.tmps, defers := [] } W)
    (hbody : ∀ (l k : Nat) (y : List UInt8) (W : World), J k W → ts[k]? = some y → w.heap.size + 2 ≤ W.heap.size →
      body.wpIn (Fence.wide.inRound l) (m - 1) P (fun e a' W' => (e = .normal ∧ J (k + 1) W' ∧ SameOn (fun g => I g ∨ g = w.heap.size ∨ g = w.heap.size + 1) (w.heap.size + 2) W W') ∨ ∃ ch, e = .panic ch ∧ a'.defers = [] ∧ Jp ch W' ∧ SameOn (fun g => I g ∨ g = w.heap.size ∨ g = w.heap.size + 1) (w.heap.size + 2) W W') (a1 (.string ⟨y.toArray⟩)) W)
    (hdone : ∀ W : World, J ts.length W → W.heap[w.heap.size]? = some (.deferred (some [])) → Q .normal { a with defers := { target := .collected w.heap.size, args := #[] } :: a.defers } W)
    (hpan : ∀ ch (W : World), Jp ch W → W.heap[w.heap.size]? = some (.deferred (some [])) → Q (.panic ch) { a with defers := { target := .collected w.heap.size, args := #[] } :: a.defers } W) :
    wpFor P f (.rangeFunc g #[p] assign body) Q a w := by
  obtain ⟨rec, hrec⟩ : ∃ rec : LoopState → Option Code → Loop, rec = fun st pe => { state := st, pending := pe, fn := f, tmps := a.tmps, params := #[p], assign, body, defers := w.heap.size } := ⟨_, rfl⟩
  obtain ⟨W1, hW1⟩ : ∃ W1, (w.alloc (.deferred (some []))).alloc (.loop (rec .ready none)) = W1 := ⟨_, rfl⟩
  have hs1 : W1.heap.size = w.heap.size + 2 := by rw [← hW1]; simp
  have hL1 : W1.heap[w.heap.size + 1]? = some (.loop (rec .ready none)) := by
    rw [← hW1]; have := World.alloc_heap_new (w.alloc (.deferred (some []))) (.loop (rec .ready none)); rwa [World.size_alloc] at this
  have hK1 : W1.heap[w.heap.size]? = some (.deferred (some [])) := by
    rw [← hW1]; exact (Below.heap_alloc _ _ _ (by simp)).trans (World.alloc_heap_new w _)
  have hb1' : Below w.heap.size w W1 := by rw [← hW1]; exact ((Below.refl _ w).alloc (Nat.le_refl _) _).alloc (by simp) _
  have hJ1 : J 0 W1 := h0 _ hb1' hs1
  have hb1 : Below w0.heap.size w0 W1 := hb0.trans (hb1'.mono hb0.size)
  refine wpFor_rangeFunc (m := m) ⟨w.heap.size + 1, [{ target := .collected w.heap.size, args := #[] }], W1, { target := .fn (.func gf) lb, args := #[.func (.yield (w.heap.size + 1)) #[] #[]] }, W1, gf,
    #[.func (.yield (w.heap.size + 1)) #[] #[]] ++ lb, W1, ?_, ?_, ?_, ?_⟩
  · rw [← hW1, hrec]; exact run_enterLoop_outer _ _ _ _ _
  · simp only [resolve, hg]
    simp [go_sem]
  · simp [invoke, go_sem, eg]
  refine (hseq (w.heap.size + 1) (fun k W => J k W ∧ W.heap[w.heap.size + 1]? = some (.loop (rec .ready none)) ∧ W.heap[w.heap.size]? = some (.deferred (some []))) (fun ch W => Jp ch W ∧ W.heap[w.heap.size]? = some (.deferred (some []))) W1 hb1 ?_ ?_ ⟨hJ1, hL1, hK1⟩).mono ?_
  · intro k A C hs hb
    have hl := (Array.getElem?_eq_some_iff.1 hs.2.1).1
    have hd := (Array.getElem?_eq_some_iff.1 hs.2.2).1
    exact ⟨hJ k _ _ hs.1 (hb.mono fun g h => .inl h), (hb.block _ hl fun h => by have := hI _ h; omega).trans hs.2.1, (hb.block _ hd fun h => by have := hI _ h; omega).trans hs.2.2⟩
  · rintro k y W ⟨hj, hl, hk⟩ hy1 hsz
    have hlt : w.heap.size + 1 < W.heap.size := (Array.getElem?_eq_some_iff.1 hl).1
    have hy := run_yield (P := P) (args := #[.string ⟨y.toArray⟩]) hl (by rw [hrec]; rfl)
    rw [hrec] at hy
    refine ⟨f, _, assign, body, hy, round_pan hfn ?_⟩
    have hl2 : (W.putObj (w.heap.size + 1) (.loop { rec .ready none with state := .busy })).heap[w.heap.size + 1]? = some (.loop { rec .ready none with state := .busy }) := World.putObj_heap_same hlt
    have hk2 : (W.putObj (w.heap.size + 1) (.loop { rec .ready none with state := .busy })).heap[w.heap.size]? = some (.deferred (some [])) := (World.putObj_heap_other (by omega)).trans hk
    refine hassign _ _ W _ ?_
    refine ⟨_, run_beginRound hl (by rw [hrec]), ?_⟩
    have hj2 : J k (W.putObj (w.heap.size + 1) (.loop { rec .ready none with state := .busy })) := hJ k _ _ hj (kept_putObj _ (.inr (.inr rfl)))
    have hp2 := grownBy_putObj' W (w.heap.size + 1) (.loop { rec .ready none with state := .busy })
    refine Go.wpIn_mono (hbody _ k y _ hj2 hy1 (Nat.le_trans (by omega) hp2.size)) ?_
    rintro e a3 W3 he
    have hget : SameOn (fun g => I g ∨ g = w.heap.size ∨ g = w.heap.size + 1) (w.heap.size + 2) (W.putObj (w.heap.size + 1) (.loop { rec .ready none with state := .busy })) W3 → W3.heap[w.heap.size + 1]? = some (.loop { rec .ready none with state := .busy }) ∧ W3.heap[w.heap.size]? = some (.deferred (some [])) := fun hk3 =>
      ⟨(hk3.block _ (.inr (.inr rfl))).trans hl2, (hk3.block _ (.inr (.inl rfl))).trans hk2⟩
    rcases he with ⟨rfl, hj3, hk3⟩ | ⟨ch, rfl, hdf, hp, hk3⟩
    · obtain ⟨hl3, hd3⟩ := hget hk3
      have hr := run_endRound (P := P) none hl3
      have hp3 := grownBy_putObj' W3 (w.heap.size + 1) (.loop { ({ rec .ready none with state := .busy } : Loop) with state := .ready })
      refine .inl ⟨rfl, _, _, hr, .inl ⟨rfl, ⟨hJ _ _ _ hj3 (kept_putObj _ (.inr (.inr rfl))), ?_, (World.putObj_heap_other (by omega)).trans hd3⟩, ?_⟩⟩
      · rw [World.putObj_heap_same (Array.getElem?_eq_some_iff.1 hl3).1, hrec]
        rfl
      · refine ⟨?_, ?_, ?_, ?_, fun j hj => ?_⟩
        · exact (grownBy_putObj' W3 _ _).os.trans (hk3.os.trans hp2.os)
        · exact (grownBy_putObj' W3 _ _).tape.trans (hk3.tape.trans hp2.tape)
        · exact (grownBy_putObj' W3 _ _).output.trans (hk3.output.trans hp2.output)
        · exact Nat.le_trans (by rw [hs1]; exact hk3.size) (grownBy_putObj' W3 _ _).size
        · have hjl := hI j hj
          exact (World.putObj_heap_other (by omega)).trans ((hk3.block j (.inl hj)).trans (World.putObj_heap_other (by omega)))
    · exact .inr ⟨ch, rfl, hdf, .inr ⟨ch, rfl, hp, (hget hk3).2⟩⟩
  · rintro e W2 (⟨⟨v, rfl⟩, hj, hl, hk⟩ | ⟨ch, rfl, hp, hk⟩)
    · refine ⟨_, by have := run_endLoop (P := P) hl (by rw [hrec]; simp); rw [hrec] at this; exact this, hdone _ (hJ _ _ _ hj (kept_putObj _ (.inr (.inr rfl)))) ((World.putObj_heap_other (by omega)).trans hk)⟩
    · exact hpan ch _ hp hk
/-- what others own was written: the state stands, begun at another world -/
theorem Sim.outside {B A C : World} {X : Ownr} {n : Nat} {σ : AS} {β : Nat → Value} {a : Act} {I : Nat → Prop} (h : Sim B X n σ β a A) (hX : X.Ok B) (hI : ∀ g, I g → X g) (hk : Kept I A C) :
    ∃ B' : World, B'.heap.size = B.heap.size ∧ Kept I B B' ∧ Sim B' X n σ β a C := by
  classical
  have hIlt : ∀ g, I g → g < B.heap.size := fun g hg => (hX.1 g (hI g hg)).1
  let B' : World := { B with heap := Array.ofFn (n := B.heap.size) fun i => if I i then (C.heap[i.1]?).getD B.heap[i] else B.heap[i] }
  have hsz : B'.heap.size = B.heap.size := Array.size_ofFn
  have hget : ∀ k, k < B.heap.size → B'.heap[k]? = some (if I k then (C.heap[k]?).getD (B.heap[k]?.getD default) else B.heap[k]?.getD default) := fun k hk => by
    simp [B', hk]
  have hne : ∀ k, k < B.heap.size → ¬ I k → B'.heap[k]? = B.heap[k]? := fun k hk hn => by
    rw [hget k hk, if_neg hn]
    simp [hk]
  have hin : ∀ k, I k → B'.heap[k]? = C.heap[k]? := fun k hi => by
    have hk1 := hIlt k hi
    rw [hget k hk1, if_pos hi]
    have : k < C.heap.size := Nat.lt_of_lt_of_le hk1 (Nat.le_trans h.bel.size hk.size)
    simp [this]
  have hkeep : Keeps A C (OSet X σ.E β) (OSet X σ.E β) := ⟨hk.size, fun g hg hn => hk.block g hg fun hi => hn (.inl (hI g hi)), fun g _ hg => hg⟩
  refine ⟨B', hsz, ⟨rfl, rfl, rfl, by rw [hsz]; exact Nat.le_refl _, hne⟩, ?_⟩
  refine ⟨h.sz, h.df, ⟨hk.os.trans h.bel.os, hk.tape.trans h.bel.tape, hk.output.trans h.bel.output, by rw [hsz]; exact Nat.le_trans h.bel.size hk.size, fun k hkl hr => ?_⟩, fun s => RepV.keep hkeep _ _ _ (h.fr s), fun i o ho => ?_, fun i o g ho hg => by rw [hsz]; exact h.new i o g ho hg, h.inj, h.lt, h.fix, h.hb, h.hE⟩
  · rw [hsz] at hkl
    by_cases hi : I k
    · exact (hin k hi).symm
    · exact (hk.block k (Nat.lt_of_lt_of_le hkl h.bel.size) hi).trans ((h.bel.block k hkl hr).trans (hne k hkl hi).symm)
  · refine (h.own i o ho).keep hkeep fun g hg => hk.block g ((h.own i o ho).block_lt hg).2 fun hi => ?_
    have hx := hX.1 g (hI g hi)
    rcases h.new i o g ho hg with h1 | h1
    · omega
    · exact hx.2 h1
/-- what others own, between two states of one walk -/
theorem Sim.sameOn {B A C : World} {X : Ownr} {n : Nat} {σ σ' : AS} {β β' : Nat → Value} {a a' : Act} {I : Nat → Prop} {X' : Ownr} (h : Sim B X n σ β a A) (h' : Sim B X' n σ' β' a' C) (hR : ∀ g, X'.R g → X.R g) (hX : X.Ok B) (hI : ∀ g, I g → X g) : SameOn I B.heap.size A C :=
  ⟨h'.bel.os.trans h.bel.os.symm, h'.bel.tape.trans h.bel.tape.symm, h'.bel.output.trans h.bel.output.symm, h'.bel.size, fun k hk =>
    have hx := hX.1 k (hI k hk)
    (h'.bel.block k hx.1 fun hr => hx.2 (hR k hr)).trans (h.bel.block k hx.1 hx.2).symm⟩
end Go.Proofs.YthhphphdbgkdgaaDoor
