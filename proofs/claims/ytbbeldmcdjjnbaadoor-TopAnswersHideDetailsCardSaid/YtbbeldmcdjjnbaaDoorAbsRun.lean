/-
  A range over a function whose rounds may panic; the function that holds it is known by its number. No program is read here.
  A region that draws its order, in all orders, where an operation may panic. A state that is carried from one activation to another. No program is read here.
  A call that comes back with a structure whose one field is a slice of the caller's own. No program is read here.
-/
import Derived.Test.YtbbeldmcdjjnbaaDoorAbsMem
import Derived.Test.YtbbeldmcdjjnbaaDoorAbsMore
namespace Go.Proofs.YtbbeldmcdjjnbaaDoor
open Go Go.RowKit
set_option linter.unusedSimpArgs false
set_option linter.unusedVariables false
section
variable {P : Program} {f : FuncId} {Q : Exit → Act → World → Prop} {a : Act} {w : World}
/-- as 'wpIn Fence.wide', of the frames of one function -/
def wpFor (P : Program) (f : FuncId) (c : Code) (Q : Exit → Act → World → Prop) (a : Act) (w : World) : Prop :=
  ∀ (b : Go.Frame) (k : List Item) (cs : List Go.Frame), b.fn = f → b.roundOf = none → ∃ e a' w', Q e a' w' ∧ ArrivesIn (Machine.fenced P Fence.wide) P (lone (b.atR a (.code c :: k)) cs w) b k cs e a' w'
theorem wpFor_of {m : Nat} {c : Code} (h : c.wpIn Fence.wide m P Q a w) : wpFor P f c Q a w := fun b k cs _ hro => h b k cs hro trivial (room_wide _)
theorem wpFor_mono {c : Code} {Q' : Exit → Act → World → Prop} (h : wpFor P f c Q a w) (hq : ∀ e a w, Q e a w → Q' e a w) : wpFor P f c Q' a w :=
  fun b k cs hb hro => let ⟨e, a', w', q, r⟩ := h b k cs hb hro; ⟨e, a', w', hq _ _ _ q, r⟩
theorem wpFor_seq {x y : Code} (h : wpFor P f x (Exit.then (wpFor P f y Q) Q) a w) : wpFor P f (.seq x y) Q a w := by
  intro b k cs hb hro
  have h0 : (lone (b.atR a (.code (.seq x y) :: k)) cs w).fenced P Fence.wide := fenced_wide P _
  obtain ⟨e, a1, w1, hq, harr⟩ := h b (.code y :: k) cs hb hro
  cases e with
  | normal =>
    obtain ⟨e2, a2, w2, hq2, harr2⟩ := hq b k cs hb hro
    exact ⟨e2, a2, w2, hq2, .of_steps (.head h0 stepR_seq harr) harr2⟩
  | _ => exact ⟨_, a1, w1, hq, .of_steps (.one h0 stepR_seq) (.pass (x := .code y) rfl (fun _ _ => .inl (by simp)) harr)⟩
theorem wpFor_block {id : Nat} {c : Code} (h : wpFor P f c (fun e a w => (e = .normal ∨ ∃ ch, e = .panic ch) ∧ Q e a w) a w) : wpFor P f (.block id c) Q a w := by
  intro b k cs hb hro
  have h0 : (lone (b.atR a (.code (.block id c) :: k)) cs w).fenced P Fence.wide := fenced_wide P _
  obtain ⟨e, a1, w1, ⟨he, hq⟩, harr⟩ := h b (.inBlock id :: k) cs hb hro
  rcases he with rfl | ⟨ch, rfl⟩
  · exact ⟨.normal, a1, w1, hq, .head h0 stepR_block (StepsIn.trans harr (.one (fenced_wide P _) stepR_inBlock))⟩
  · exact ⟨_, a1, w1, hq, .of_steps (.one h0 stepR_block) harr⟩
/-- a round that ends or panics -/
theorem round_pan {l m : Nat} {tmps : Array Value} {assign body : Code} {R : Ending → World → Prop} (hf : ∃ fn, P.funcs[f]? = some fn)
    (h : assign.wpIn (Fence.wide.inRound l) m P (Exit.then (fun a1 w1 => ∃ w2, (Instr.beginRound l).run P w1 = .ok () w2 ∧ body.wpIn (Fence.wide.inRound l) m P
      (fun e a w => (e = .normal ∧ ∃ v w', (Instr.endRound l none).run P w = .ok v w' ∧ R (.returned v) w') ∨ ∃ ch, e = .panic ch ∧ a.defers = [] ∧ R (.panicked ch) w) a1 w2) (fun _ _ _ => False)) { tmps := tmps, defers := [] } w) :
    RoundIn Fence.wide m P l f tmps assign body w R := by
  refine ⟨trivial, fun c cs _ => ?_⟩
  let b : Go.Frame := { (default : Go.Frame) with fn := f, kind := .normal, roundOf := some l }
  have hb0 : Go.Frame.round l f tmps assign body .normal = b.atR { tmps := tmps, defers := [] } [.code assign, .beginRound, .code body] := by
    simp [Go.Frame.round, Go.Frame.atR, b]
  obtain ⟨e, a1, w1, hq, harr⟩ := h b [.beginRound, .code body] (c :: cs) rfl trivial (by intro d hd; cases hd)
  rw [← hb0] at harr
  cases e with
  | normal =>
    obtain ⟨w2, hbr, hbody⟩ := hq
    have s1 : StepsIn (Machine.fenced P (Fence.wide.inRound l)) P (lone (b.atR a1 [.beginRound, .code body]) (c :: cs) w1) (lone (b.atR a1 [.code body]) (c :: cs) w2) :=
      .one (fenced_wide P _) (stepR_beginRound rfl hbr)
    obtain ⟨e2, a2, w3, hq2, harr2⟩ := hbody b [] (c :: cs) rfl trivial (by intro d hd; cases hd)
    rcases hq2 with ⟨rfl, v, w4, hend, hR⟩ | ⟨ch, rfl, hd, hR⟩
    · exact ⟨.returned v, w4, hR, (StepsIn.trans harr s1).trans (StepsIn.trans harr2 (.one (fenced_wide P _) (stepR_round_end rfl rfl hend)))⟩
    · obtain ⟨todo, hs⟩ := harr2
      refine ⟨.panicked ch, w3, hR, (StepsIn.trans harr s1).trans (StepsIn.trans hs (.one (fenced_wide P _) (step_leave_panicked ?_)))⟩
      exact ⟨rfl, hd, hf⟩
  | _ => exact hq.elim
/-- the statement, in a function that is known -/
theorem wpFor_rangeFunc {g : Operand} {ps : Array Tmp} {assign body : Code} {m : Nat}
    (h : ∃ (l : Nat) (mark : List Deferred) (w1 : World) (d : Deferred) (w1' : World) (gf : FuncId) (args : Array Value) (w2 : World),
      (Instr.enterLoop f a.tmps ps assign body none).run P w = .ok (l, mark) w1 ∧ (resolve a.eval (rangeCall g l) 0).run P w1 = .ok d w1' ∧ (invoke d.target d.args).run P w1' = .ok (.enter gf args) w2 ∧
      CallsIn Fence.wide m P gf args w2 (fun e w3 => match e with
        | .returned _ => ∃ w4, (Instr.endLoop l).run P w3 = .ok none w4 ∧ Q .normal { a with defers := mark ++ a.defers } w4
        | .panicked ch => Q (.panic ch) { a with defers := mark ++ a.defers } w3
        | .outgrown => False)) :
    wpFor P f (.rangeFunc g ps assign body) Q a w := by
  intro b k cs hb hro
  obtain ⟨l, mark, w1, d, w1', gf, args, w2, he, hres, hinv, _, hcall⟩ := h
  rw [← hro, ← hb] at he
  have henter := stepR_rangeFunc (P := P) (b := b) (a := a) (k := k) (cs := cs) (w := w) he hres hinv
  obtain ⟨e, w3, fr, hR, hsteps, hfn, hleave⟩ := hcall (b.atR { a with defers := mark ++ a.defers } (.inRangeFunc l :: k) :: cs) (room_wide _)
  cases e with
  | outgrown => exact hR.elim
  | returned v =>
    obtain ⟨w4, hend, hj⟩ := hR
    refine ⟨.normal, _, w4, hj, .head (fenced_wide P _) henter (StepsIn.trans hsteps (.head (fenced_wide P _) ?_ (.one (fenced_wide P _) (stepR_endRangeFunc hend))))⟩
    rw [← finish_atR_inRangeFunc l v]
    exact step_leave_returned hleave
  | panicked chain =>
    refine ⟨.panic chain, _, w3, hR, .inRangeFunc l :: k, .head (fenced_wide P _) henter (StepsIn.trans hsteps (.one (fenced_wide P _) ?_))⟩
    rw [← Frame.raise_atR]
    exact step_leave_panicked hleave
/-- a function's contract out of its body -/
theorem calls_of_wpFor {fn : Func} {c : Code} {args : Array Value} {m : Nat} {R : Ending → World → Prop} (hf : P.funcs[f]? = some fn) (hb : fn.body = some c)
    (h : wpFor P f c (bodyPostM Fence.wide m P fn R) { tmps := args ++ Array.replicate (fn.ntmps - args.size) undef, defers := [] } w) : CallsIn Fence.wide m P f args w R := by
  refine ⟨trivial, fun cs hr => ?_⟩
  let b : Go.Frame := { (default : Go.Frame) with fn := f, kind := .normal, roundOf := none }
  have henter : Go.Frame.enter P f args .normal = b.atR { tmps := args ++ Array.replicate (fn.ntmps - args.size) undef, defers := [] } [.code c] := by
    simp [Go.Frame.enter, Go.Frame.atR, hf, hb, b]
  obtain ⟨e, a', w', hq, harr⟩ := h b [] cs rfl rfl
  rw [← henter] at harr
  cases e with
  | normal =>
    obtain ⟨e', w'', fr', hR, hs, hfn, hl⟩ := leaves_stepsInM a'.defers .returning w' { b.atR a' [] with mode := .returning } cs rfl rfl rfl hf rfl trivial hr hq
    exact ⟨e', w'', fr', hR, ComesIn.of_steps (StepsIn.trans harr (.one (fenced_wide P _) (stepR_end rfl))) hs, hfn, hl⟩
  | ret =>
    obtain ⟨todo, hs0⟩ := harr.1 rfl
    obtain ⟨e', w'', fr', hR, hs, hfn, hl⟩ := leaves_stepsInM a'.defers .returning w' { b.atR a' todo with mode := .returning } cs rfl rfl rfl hf rfl trivial hr hq
    exact ⟨e', w'', fr', hR, ComesIn.of_steps hs0 hs, hfn, hl⟩
  | panic chain =>
    obtain ⟨todo, hs0⟩ := harr
    obtain ⟨e', w'', fr', hR, hs, hfn, hl⟩ := leaves_stepsInM a'.defers (.panicking chain) w' { b.atR a' todo with mode := .panicking chain } cs rfl rfl rfl hf rfl trivial hr hq
    exact ⟨e', w'', fr', hR, ComesIn.of_steps hs0 hs, hfn, hl⟩
  | exit id => exact hq.elim
  | goto l => exact hq.elim
  | outgrown => exact ⟨.outgrown, w', b, hq, harr.resolve_left (by simp [b]), rfl, trivial⟩
end
theorem Kept.mono {R R' : Nat → Prop} {w w' : World} (h : Kept R w w') (hr : ∀ k, R k → R' k) : Kept R' w w' := ⟨h.os, h.tape, h.output, h.size, fun k hk hn => h.block k hk fun hR => hn (hr k hR)⟩
theorem Kept.trans {R : Nat → Prop} {a b c : World} (h : Kept R a b) (k : Kept R b c) : Kept R a c := ⟨k.os.trans h.os, k.tape.trans h.tape, k.output.trans h.output, Nat.le_trans h.size k.size, fun i hi hr => (k.block i (Nat.lt_of_lt_of_le hi h.size) hr).trans (h.block i hi hr)⟩
theorem kept_putObj {R : Nat → Prop} {W : World} {l : Nat} (o' : Obj) (hR : R l) : Kept R W (W.putObj l o') :=
  have hg := grownBy_putObj' W l o'
  ⟨hg.os, hg.tape, hg.output, hg.size, fun k hk hn => hg.block k hk fun e => by cases e; exact hn hR⟩
theorem kept_of_below {B : Nat} {R : Nat → Prop} {w w' : World} (h : Below B w w') (hR : ∀ k, B ≤ k → R k) : Kept R w w' := ⟨h.os, h.tape, h.output, h.size, fun k _ hn => h.block k (Nat.lt_of_not_le fun hk => hn (hR k hk))⟩
/-- these blocks lie as they lay -/
structure SameOn (I : Nat → Prop) (N : Nat) (w w' : World) : Prop where
  os : w'.os = w.os
  tape : w'.tape = w.tape
  output : w'.output = w.output
  size : N ≤ w'.heap.size
  block : ∀ k, I k → w'.heap[k]? = w.heap[k]?
/-- the iterator's word: it hands out these texts, as long as no round panics; I: blocks of its own -/
def SeqPan (P : Program) (m : Nat) (gf : Nat) (lb : Array Value) (I : Nat → Prop) (ts : List (List UInt8)) (w : World) : Prop :=
  ∀ (l : Nat) (J : Nat → World → Prop) (Jp : List PanicEntry → World → Prop) (W : World), Below w.heap.size w W → (∀ k A C, J k A → Kept I A C → J k C) →
    (∀ k y W1, J k W1 → ts[k]? = some y → W.heap.size ≤ W1.heap.size → YieldAt Fence.wide (m - 1) P l #[.string ⟨List.toArray y⟩] W1 fun e W' => (e = .returned (.bool true) ∧ J (k + 1) W' ∧ SameOn I W.heap.size W1 W') ∨ ∃ ch, e = .panicked ch ∧ Jp ch W') →
    J 0 W →
    CallsIn Fence.wide m P gf (#[.func (.yield l) #[] #[]] ++ lb) W fun e W' => ((∃ v, e = .returned v) ∧ J ts.length W') ∨ ∃ ch, e = .panicked ch ∧ Jp ch W'
/-- the caller's law -/
theorem wpFor_rangePan {P : Program} {f : FuncId} {m : Nat} {g : Operand} {p : Tmp} {assign body : Code} {Q : Exit → Act → World → Prop} {a : Act} {w : World} {gf : Nat} {lb : Array Value} (hfn : ∃ fn, P.funcs[f]? = some fn) (hg : a.eval g = .func (.func gf) #[] lb) (eg : ∀ args w, (callFunc gf args).run P w = .ok (.enter gf args) w)
    {I : Nat → Prop} {ts : List (List UInt8)} {w0 : World} (hseq : SeqPan P m gf lb I ts w0) (hb0 : Below w0.heap.size w0 w) (hI : ∀ k, I k → k < w.heap.size)
    (J : Nat → World → Prop) (Jp : List PanicEntry → World → Prop) (hJ : ∀ k A C, J k A → Kept (fun g => I g ∨ g = w.heap.size ∨ g = w.heap.size + 1) A C → J k C) (h0 : ∀ W1 : World, Below w.heap.size w W1 → W1.heap.size = w.heap.size + 2 → J 0 W1) (a1 : Value → Act)
    (hassign : ∀ (l : Nat) (x : Value) (W : World) (K : Act → World → Prop), K (a1 x) W → assign.wpIn (Fence.wide.inRound l) (m - 1) P (Exit.then K (fun _ _ _ => False)) { tmps := ((#[p] : Array Tmp).zip #[x]).foldl (fun t (p, v) => t.setIfInBounds p v) a.tmps, defers := [] } W)
    (hbody : ∀ (l k : Nat) (y : List UInt8) (W : World), J k W → ts[k]? = some y → w.heap.size + 2 ≤ W.heap.size →
      body.wpIn (Fence.wide.inRound l) (m - 1) P (fun e a' W' => (e = .normal ∧ J (k + 1) W' ∧ SameOn (fun g => I g ∨ g = w.heap.size ∨ g = w.heap.size + 1) (w.heap.size + 2) W W') ∨ ∃ ch, e = .panic ch ∧ a'.defers = [] ∧ Jp ch W' ∧ SameOn (fun g => I g ∨ g = w.heap.size ∨ g = w.heap.size + 1) (w.heap.size + 2) W W') (a1 (.string ⟨y.toArray⟩)) W)
    (hdone : ∀ W : World, J ts.length W → W.heap[w.heap.size]? = some (.deferred (some [])) → Q .normal { a with defers := { target := .collected w.heap.size, args := #[] } :: a.defers } W)
    (hpan : ∀ ch (W : World), Jp ch W → W.heap[w.heap.size]? = some (.deferred (some [])) → Q (.panic ch) { a with defers := { target := .collected w.heap.size, args := #[] } :: a.defers } W) :
    wpFor P f (.rangeFunc g #[p] assign body) Q a w := by
  obtain ⟨rec, hrec⟩ : ∃ rec : LoopState → Option Code → Loop, rec = fun st pe => { state := st, pending := pe, fn := f, tmps := a.tmps, params := #[p], assign, body, defers := w.heap.size } := ⟨_, rfl⟩
  obtain ⟨W1, hW1⟩ : ∃ W1, (w.alloc (.deferred (some []))).alloc (.loop (rec .ready none)) = W1 := ⟨_, rfl⟩
  have hs1 : W1.heap.size = w.heap.size + 2 := by rw [← hW1]; simp
  have hL1 : W1.heap[w.heap.size + 1]? = some (.loop (rec .ready none)) := by
    rw [← hW1]; have := World.alloc_heap_new (w.alloc (.deferred (some []))) (.loop (rec .ready none)); rwa [World.size_alloc] at this
  have hK1 : W1.heap[w.heap.size]? = some (.deferred (some [])) := by
    rw [← hW1]; exact (Below.heap_alloc _ _ _ (by simp)).trans (World.alloc_heap_new w _)
  have hb1' : Below w.heap.size w W1 := by rw [← hW1]; exact ((Below.refl _ w).alloc (Nat.le_refl _) _).alloc (by simp) _
  have hJ1 : J 0 W1 := h0 _ hb1' hs1
  have hb1 : Below w0.heap.size w0 W1 := hb0.trans (hb1'.mono hb0.size)
  refine wpFor_rangeFunc (m := m) ⟨w.heap.size + 1, [{ target := .collected w.heap.size, args := #[] }], W1, { target := .fn (.func gf) lb, args := #[.func (.yield (w.heap.size + 1)) #[] #[]] }, W1, gf,
    #[.func (.yield (w.heap.size + 1)) #[] #[]] ++ lb, W1, ?_, ?_, ?_, ?_⟩
  · rw [← hW1, hrec]; exact run_enterLoop_outer _ _ _ _ _
  · simp only [resolve, hg]
    simp [go_sem]
  · simp [invoke, go_sem, eg]
  refine (hseq (w.heap.size + 1) (fun k W => J k W ∧ W.heap[w.heap.size + 1]? = some (.loop (rec .ready none)) ∧ W.heap[w.heap.size]? = some (.deferred (some []))) (fun ch W => Jp ch W ∧ W.heap[w.heap.size]? = some (.deferred (some []))) W1 hb1 ?_ ?_ ⟨hJ1, hL1, hK1⟩).mono ?_
  · intro k A C hs hb
    have hl := (Array.getElem?_eq_some_iff.1 hs.2.1).1
    have hd := (Array.getElem?_eq_some_iff.1 hs.2.2).1
    exact ⟨hJ k _ _ hs.1 (hb.mono fun g h => .inl h), (hb.block _ hl fun h => by have := hI _ h; omega).trans hs.2.1, (hb.block _ hd fun h => by have := hI _ h; omega).trans hs.2.2⟩
  · rintro k y W ⟨hj, hl, hk⟩ hy1 hsz
    have hlt : w.heap.size + 1 < W.heap.size := (Array.getElem?_eq_some_iff.1 hl).1
    have hy := run_yield (P := P) (args := #[.string ⟨y.toArray⟩]) hl (by rw [hrec]; rfl)
    rw [hrec] at hy
    refine ⟨f, _, assign, body, hy, round_pan hfn ?_⟩
    have hl2 : (W.putObj (w.heap.size + 1) (.loop { rec .ready none with state := .busy })).heap[w.heap.size + 1]? = some (.loop { rec .ready none with state := .busy }) := World.putObj_heap_same hlt
    have hk2 : (W.putObj (w.heap.size + 1) (.loop { rec .ready none with state := .busy })).heap[w.heap.size]? = some (.deferred (some [])) := (World.putObj_heap_other (by omega)).trans hk
    refine hassign _ _ W _ ?_
    refine ⟨_, run_beginRound hl (by rw [hrec]), ?_⟩
    have hj2 : J k (W.putObj (w.heap.size + 1) (.loop { rec .ready none with state := .busy })) := hJ k _ _ hj (kept_putObj _ (.inr (.inr rfl)))
    have hp2 := grownBy_putObj' W (w.heap.size + 1) (.loop { rec .ready none with state := .busy })
    refine Go.wpIn_mono (hbody _ k y _ hj2 hy1 (Nat.le_trans (by omega) hp2.size)) ?_
    rintro e a3 W3 he
    have hget : SameOn (fun g => I g ∨ g = w.heap.size ∨ g = w.heap.size + 1) (w.heap.size + 2) (W.putObj (w.heap.size + 1) (.loop { rec .ready none with state := .busy })) W3 → W3.heap[w.heap.size + 1]? = some (.loop { rec .ready none with state := .busy }) ∧ W3.heap[w.heap.size]? = some (.deferred (some [])) := fun hk3 =>
      ⟨(hk3.block _ (.inr (.inr rfl))).trans hl2, (hk3.block _ (.inr (.inl rfl))).trans hk2⟩
    rcases he with ⟨rfl, hj3, hk3⟩ | ⟨ch, rfl, hdf, hp, hk3⟩
    · obtain ⟨hl3, hd3⟩ := hget hk3
      have hr := run_endRound (P := P) none hl3
      have hp3 := grownBy_putObj' W3 (w.heap.size + 1) (.loop { ({ rec .ready none with state := .busy } : Loop) with state := .ready })
      refine .inl ⟨rfl, _, _, hr, .inl ⟨rfl, ⟨hJ _ _ _ hj3 (kept_putObj _ (.inr (.inr rfl))), ?_, (World.putObj_heap_other (by omega)).trans hd3⟩, ?_⟩⟩
      · rw [World.putObj_heap_same (Array.getElem?_eq_some_iff.1 hl3).1, hrec]
        rfl
      · refine ⟨?_, ?_, ?_, ?_, fun j hj => ?_⟩
        · exact (grownBy_putObj' W3 _ _).os.trans (hk3.os.trans hp2.os)
        · exact (grownBy_putObj' W3 _ _).tape.trans (hk3.tape.trans hp2.tape)
        · exact (grownBy_putObj' W3 _ _).output.trans (hk3.output.trans hp2.output)
        · exact Nat.le_trans (by rw [hs1]; exact hk3.size) (grownBy_putObj' W3 _ _).size
        · have hjl := hI j hj
          exact (World.putObj_heap_other (by omega)).trans ((hk3.block j (.inl hj)).trans (World.putObj_heap_other (by omega)))
    · exact .inr ⟨ch, rfl, hdf, .inr ⟨ch, rfl, hp, (hget hk3).2⟩⟩
  · rintro e W2 (⟨⟨v, rfl⟩, hj, hl, hk⟩ | ⟨ch, rfl, hp, hk⟩)
    · refine ⟨_, by have := run_endLoop (P := P) hl (by rw [hrec]; simp); rw [hrec] at this; exact this, hdone _ (hJ _ _ _ hj (kept_putObj _ (.inr (.inr rfl)))) ((World.putObj_heap_other (by omega)).trans hk)⟩
    · exact hpan ch _ hp hk
/-- what others own was written: the state stands, begun at another world -/
theorem Sim.outside {B A C : World} {X : Ownr} {n : Nat} {σ : AS} {β : Nat → Value} {a : Act} {I : Nat → Prop} (h : Sim B X n σ β a A) (hX : X.Ok B) (hI : ∀ g, I g → X g) (hk : Kept I A C) :
    ∃ B' : World, B'.heap.size = B.heap.size ∧ Kept I B B' ∧ Sim B' X n σ β a C := by
  classical
  have hIlt : ∀ g, I g → g < B.heap.size := fun g hg => (hX.1 g (hI g hg)).1
  let B' : World := { B with heap := Array.ofFn (n := B.heap.size) fun i => if I i then (C.heap[i.1]?).getD B.heap[i] else B.heap[i] }
  have hsz : B'.heap.size = B.heap.size := Array.size_ofFn
  have hget : ∀ k, k < B.heap.size → B'.heap[k]? = some (if I k then (C.heap[k]?).getD (B.heap[k]?.getD default) else B.heap[k]?.getD default) := fun k hk => by
    simp [B', hk]
  have hne : ∀ k, k < B.heap.size → ¬ I k → B'.heap[k]? = B.heap[k]? := fun k hk hn => by
    rw [hget k hk, if_neg hn]
    simp [hk]
  have hin : ∀ k, I k → B'.heap[k]? = C.heap[k]? := fun k hi => by
    have hk1 := hIlt k hi
    rw [hget k hk1, if_pos hi]
    have : k < C.heap.size := Nat.lt_of_lt_of_le hk1 (Nat.le_trans h.bel.size hk.size)
    simp [this]
  have hkeep : Keeps A C (OSet X σ.E β) (OSet X σ.E β) := ⟨hk.size, fun g hg hn => hk.block g hg fun hi => hn (.inl (hI g hi)), fun g _ hg => hg⟩
  refine ⟨B', hsz, ⟨rfl, rfl, rfl, by rw [hsz]; exact Nat.le_refl _, hne⟩, ?_⟩
  refine ⟨h.sz, h.df, ⟨hk.os.trans h.bel.os, hk.tape.trans h.bel.tape, hk.output.trans h.bel.output, by rw [hsz]; exact Nat.le_trans h.bel.size hk.size, fun k hkl hr => ?_⟩, fun s => RepV.keep hkeep _ _ _ (h.fr s), fun i o ho => ?_, fun i o g ho hg => by rw [hsz]; exact h.new i o g ho hg, h.inj, h.lt, h.fix, h.hb, h.hE⟩
  · rw [hsz] at hkl
    by_cases hi : I k
    · exact (hin k hi).symm
    · exact (hk.block k (Nat.lt_of_lt_of_le hkl h.bel.size) hi).trans ((h.bel.block k hkl hr).trans (hne k hkl hi).symm)
  · refine (h.own i o ho).keep hkeep fun g hg => hk.block g ((h.own i o ho).block_lt hg).2 fun hi => ?_
    have hx := hX.1 g (hI g hi)
    rcases h.new i o g ho hg with h1 | h1
    · omega
    · exact hx.2 h1
/-- what others own, between two states of one walk -/
theorem Sim.sameOn {B A C : World} {X : Ownr} {n : Nat} {σ σ' : AS} {β β' : Nat → Value} {a a' : Act} {I : Nat → Prop} {X' : Ownr} (h : Sim B X n σ β a A) (h' : Sim B X' n σ' β' a' C) (hR : ∀ g, X'.R g → X.R g) (hX : X.Ok B) (hI : ∀ g, I g → X g) : SameOn I B.heap.size A C :=
  ⟨h'.bel.os.trans h.bel.os.symm, h'.bel.tape.trans h.bel.tape.symm, h'.bel.output.trans h.bel.output.symm, h'.bel.size, fun k hk =>
    have hx := hX.1 k (hI k hk)
    (h'.bel.block k hx.1 fun hr => hx.2 (hR k hr)).trans (h.bel.block k hx.1 hx.2).symm⟩
end Go.Proofs.YtbbeldmcdjjnbaaDoor
namespace Go.Proofs.YtbbeldmcdjjnbaaDoor
open Go Go.RowKit
set_option linter.unusedSimpArgs false
set_option linter.unusedVariables false
section
variable {P : Program} {K : Kn} {w0 : World} {X : Ownr} {n : Nat} {σ : AS} {Q : Exit → AS → Prop} {ops : Array Oper}
/-- one operation, done or left otherwise -/
def StepA (P : Program) (w0 : World) (X : Ownr) (n : Nat) (ops : Array Oper) (o : Oper) (σ : AS) (N : AS → Prop) (Q : Exit → AS → Prop) : Prop :=
  ∀ (β : Nat → Value) (a : Act) (w : World) (I : Act → World → Prop) (R : Exit → Act → World → Prop), Sim w0 X n σ β a w → (∀ σ' β' a' w', Sim w0 X n σ' β' a' w' → N σ' → I a' w') → (∀ e σ' β' a' w', e ≠ .outgrown → Sim w0 X n σ' β' a' w' → Q e σ' → R e a' w') →
    if Region.wanted o (yielded ops a.tmps) then o.wp P a w I R ∨ (o.asks P a w ∧ LetsOut R) else I (a.put o.dst undef) w
theorem StepA.eval (hX : X.Ok w0) (hK : KnOk P X.G K) {o : Oper} {r : List Prop × AS} {N : AS → Prop} (hs : aStep K n ops o σ = some r) (hp : allP r.1) (hN : N r.2) : StepA P w0 X n ops o σ N Q :=
  fun β a w I R hsim hI _ => aStep_wp hK hX hsim hs hp fun β' a' w' h => hI _ β' a' w' h hN
theorem StepA.hand {o : Oper} {N : AS → Prop} (hgd : o.guard = none) (h : ∀ β a w, Sim w0 X n σ β a w → o.wp P a w (fun a' w' => ∃ σ' β', Sim w0 X n σ' β' a' w' ∧ N σ') (fun e a' w' => e ≠ .outgrown ∧ ∃ σ' β', Sim w0 X n σ' β' a' w' ∧ Q e σ')) : StepA P w0 X n ops o σ N Q := by
  intro β a w I R hsim hI hR
  simp only [Region.wanted, hgd, if_true]
  have h0 := h β a w hsim
  have hmono : ∀ a' w', (∃ σ' β', Sim w0 X n σ' β' a' w' ∧ N σ') → I a' w' := fun a' w' ⟨σ', β', h1, h2⟩ => hI σ' β' a' w' h1 h2
  refine .inl (Oper.wp_mono hmono ?_)
  unfold Oper.wp at h0 ⊢
  revert h0
  generalize (execOp a.eval o).run P w = x
  intro h0
  cases x with
  | ok x w' =>
    cases x with
    | enter f args =>
      refine Calls.mono h0 fun e w'' he => ?_
      cases e with
      | returned v => exact he
      | panicked c => obtain ⟨h1, σ', β', h2, h3⟩ := he; exact hR _ σ' β' _ _ h1 h2 h3
      | outgrown => obtain ⟨_, _, h, _⟩ := he; exact (h rfl).elim
    | _ => first | exact h0 | (obtain ⟨_, _, h, _⟩ := h0.2; exact (h rfl).elim) | (obtain ⟨_, _, h, _⟩ := h0; exact (h rfl).elim)
  | halt x w' =>
    cases x with
    | panic v => obtain ⟨h1, σ', β', h2, h3⟩ := h0; exact hR _ σ' β' _ _ h1 h2 h3
    | _ => exact h0
/-- in each order -/
def OrdA (P : Program) (w0 : World) (X : Ownr) (n : Nat) (ops : Array Oper) (Q : Exit → AS → Prop) : Nat → List Nat → AS → Prop
  | 0, _, σ => Q .normal σ
  | f + 1, done, σ => AllN (fun i => ∃ o, ops.toList[i]? = some o ∧ StepA P w0 X n ops o σ (OrdA P w0 X n ops Q f (i :: done)) Q) (readyL done ops.toList 0)
theorem OrdA.step {f : Nat} {done : List Nat} (l : List Nat) (hl : readyL done ops.toList 0 = l) (h : AllN (fun i => ∃ o, ops.toList[i]? = some o ∧ StepA P w0 X n ops o σ (OrdA P w0 X n ops Q f (i :: done)) Q) l) : OrdA P w0 X n ops Q (f + 1) done σ := by
  subst hl
  exact h
theorem OrdA.last {done : List Nat} (h : Q .normal σ) : OrdA P w0 X n ops Q 0 done σ := h
theorem ordersA_any {β : Nat → Value} {a : Act} {w : World} (h : Sim w0 X n σ β a w) (hb : backB ops = true) (ho : OrdA P w0 X n ops Q ops.size [] σ) :
    wpAny P .any ops (fun e a' w' => e ≠ .outgrown ∧ ∃ σ' β', Sim w0 X n σ' β' a' w' ∧ Q e σ') ops.size (Array.replicate ops.size false) a { w with drawn := w.drawn + 1 } := by
  let W := w.drew
  have hsim : Sim w0 X n σ β a W := ⟨h.sz, h.df, h.bel.then ((Below.refl _ _).drew), fun s => RepV.keep (.of_below ((Below.refl _ _).drew) fun _ _ h => h) _ _ _ (h.fr s), fun i o ho => (h.own i o ho).keep (.of_below ((Below.refl _ _).drew) fun _ _ h => h) fun _ _ => rfl, h.new, h.inj, h.lt, h.fix, h.hb, h.hE⟩
  let I : Array Bool → Act → World → Prop := fun listed a' w' => ∃ done s β', listed.size = ops.size ∧ (∀ i, i < ops.size → (listed.getD i false = true ↔ i ∈ done)) ∧ Sim w0 X n s β' a' w' ∧ OrdA P w0 X n ops Q (left listed ops.size) done s
  have hl0 : left (Array.replicate ops.size false) ops.size = ops.size := by
    unfold left
    have : (List.range ops.size).filter (fun i => !(Array.replicate ops.size false).getD i false) = List.range ops.size := by
      rw [List.filter_eq_self]
      intro i _
      rw [getD_replicate_false]
      rfl
    rw [this, List.length_range]
  suffices hkey : wpAny P .any ops (fun e a' w' => e ≠ .outgrown ∧ ∃ σ' β', Sim w0 X n σ' β' a' w' ∧ Q e σ') (left (Array.replicate ops.size false) ops.size + 0) (Array.replicate ops.size false) a W by
    rw [Nat.add_zero, hl0] at hkey
    exact hkey
  refine wpAny_head (Nat.le_refl _) hb (.inl rfl) I ?_ ?_ _ _ a W rfl ⟨by simp, fun j oj _ hlj => (by rw [getD_replicate_false] at hlj; cases hlj), fun t ht1 ht => absurd ht (by omega)⟩ ⟨[], σ, β, by simp, fun i _ => by rw [getD_replicate_false]; simp, hsim, by rw [hl0]; exact ho⟩
  · rintro listed a' w' ⟨done, s, β', hsz, hd, hs, hok⟩ i him hir
    obtain ⟨hun, o, ho, hdone⟩ := mem_ready.1 hir
    have hunf : listed.getD i false = false := getD_both hun
    have hlt := left_set him (by rw [hsz]; exact him) hunf
    rw [← hlt] at hok
    have hmem : 0 + i ∈ readyL done ops.toList 0 := readyL_mem (o := o) (by simpa using ho) (by
      rw [Nat.zero_add]
      cases hh : hasN done i with
      | false => rfl
      | true => rw [(hd i him).2 (hasN_iff.1 hh)] at hunf; cases hunf) fun e he hbd => by
        have h1 := hdone e he hbd
        by_cases hlt : e.on < ops.size
        · exact hasN_iff.2 ((hd _ hlt).1 h1)
        · rw [Array.getD_eq_getD_getElem?, Array.getElem?_eq_none (by omega)] at h1
          cases h1
    rw [Nat.zero_add] at hmem
    obtain ⟨o', h1, h2⟩ := AllN.mem hok hmem
    have : o' = o := by
      rw [Array.getElem?_toList, ho] at h1
      cases h1
      rfl
    subst this
    unfold wpOp
    rw [ho]
    simp only
    refine h2 β' a' w' _ _ hs (fun σ2 β2 a2 w2 hs2 h4 => ⟨i :: done, σ2, β2, by simp [hsz], fun j hj => ?_, hs2, h4⟩) (fun e σ2 β2 a2 w2 hne hs2 hq => ⟨hne, σ2, β2, hs2, hq⟩)
    by_cases hji : i = j
    · subst hji
      simp [Array.getD, hsz, him]
    · rw [getD_set_ne false hji, hd j hj, List.mem_cons]
      constructor
      · exact fun h => .inr h
      · rintro (h | h)
        · exact absurd h.symm hji
        · exact h
  · rintro listed a' w' inv hall ⟨done, s, β', hsz, hd, hs, hok⟩
    have hz : left listed ops.size = 0 := by
      unfold left
      rw [List.length_eq_zero_iff, List.filter_eq_nil_iff]
      intro i hi
      rw [hall i (List.mem_range.1 hi)]
      simp
    rw [hz] at hok
    have hfit : Q .normal s := hok
    refine ⟨?_, (fun h => by cases h), s, β', hs, hfit⟩
    apply List.eq_nil_iff_forall_not_mem.2
    intro i hi
    obtain ⟨hun, o, ho, _⟩ := mem_ready.1 hi
    have hlt := (Array.getElem?_eq_some_iff.1 ho).1
    have := getD_both hun
    rw [hall i hlt] at this
    cases this
/-- a region that draws its order, in all orders; an operation may panic -/
theorem AWP.ordersA (hm : P.follows .mixedOrders = true) {id : Nat} (f : Nat) (hf : ops.toList.length = f) (hb : backB ops = true) (ho : OrdA P w0 X n ops Q f [] σ) (hd : noDefer ops.toList = true := by rfl) : AWP P w0 X n (.region id ops true) σ Q := fun _ _ _ h => by
  have hf' : ops.size = f := hf
  subst hf'
  exact Go.wpIn_mono (wpIn_region_any hm (wpAnyIn_of_wpAny (R := fun e a' w' => e ≠ .outgrown ∧ ∃ σ' β', Sim w0 X n σ' β' a' w' ∧ Q e σ') (fun ⟨_, _, h, _⟩ => h rfl) hd _ (ordersA_any h hb ho))) fun e a w h => h.2
end
/-! ### one activation's state, for another -/
section
variable {w0 w : World} {X X' : Ownr} {n m : Nat} {σ : AS} {β : Nat → Value} {a a' : Act}
theorem Sim.act (h : Sim w0 X n σ β a w) (hx : X'.X = X.X) (hk : X'.K = X.K) (hf : X'.fix = X.fix) (hsz : a'.tmps.size = m) (hdf : a'.defers = X'.D) {F : Frame} (hfr : ∀ s, RepV w (OSet X σ.E β) β (Frame.get F s).t (Frame.get F s).x (a'.tmps.getD s undef)) (hb : bndB σ.nx F = true) (hxb : X'.B = X.B := by rfl) : Sim w0 X' m ⟨F, σ.E, σ.nx⟩ β a' w := by
  have hR : X'.R = X.R := by unfold Ownr.R; rw [hk, hf, hxb]
  have hO : OSet X' σ.E β = OSet X σ.E β := by unfold OSet; rw [hx]
  refine ⟨hsz, hdf, by rw [hR]; exact h.bel, by rw [hO]; exact hfr, by rw [hO]; exact h.own, by rw [hR]; exact h.new, h.inj, h.lt, by rw [hk, hf]; exact h.fix, fun s => bndB_get hb s, h.hE⟩
/-- a state out of variables that lie in known blocks -/
theorem Sim.boxes {F : Frame} {E : Owns} (hsz : a.tmps.size = n) (hdf : a.defers = X.D) (hβ : ∀ i, i < X.K → β i = .pointer (some ⟨X.fix i, 0, none⟩)) (hinj : ∀ i j, i < X.K → j < X.K → X.fix i = X.fix j → i = j)
    (hE : ∀ i o, Owns.get E i = some o → i < X.K ∧ o.isBuf = false ∧ OwnRep w (OSet X E β) β 0 (β i) o ∧ o.under X.K) (hfr : ∀ s, RepV w (OSet X E β) β (Frame.get F s).t (Frame.get F s).x (a.tmps.getD s undef)) (hb : bndB X.K F = true) : Sim w X n ⟨F, E, X.K⟩ β a w := by
  have hblk : ∀ i, i < X.K → blockOf (β i) = some (X.fix i) := fun i hi => by rw [hβ i hi]; rfl
  refine ⟨hsz, hdf, Kept.refl _ _, hfr, fun i o h => (hE i o h).2.2.1, fun i o g h hg => ?_, fun i j oi oj h h' hne g hg hg' => ?_, fun i o h => (hE i o h).1, ⟨Nat.le_refl _, fun i hi => ⟨hblk i hi, fun o ho => (hE i o ho).2.1⟩⟩, fun s => bndB_get hb s, fun i o h => (hE i o h).2.2.2⟩
  · have h1 := (hE i o h).1
    rw [hblk i h1] at hg
    exact .inr (.inl ⟨i, h1, Option.some.inj hg⟩)
  · have h1 := (hE i oi h).1
    have h2 := (hE j oj h').1
    rw [hblk i h1] at hg
    rw [hblk j h2] at hg'
    exact hne (hinj i j h1 h2 (Option.some.inj (hg.trans hg'.symm)))
/-- new memory may have come -/
theorem Sim.grow {w' : World} (h : Sim w0 X n σ β a w) (hk : Below w.heap.size w w') : Sim w0 X n σ β a w' :=
  ⟨h.sz, h.df, h.bel.then hk, fun s => RepV.keep (.of_below hk fun _ _ h => h) _ _ _ (h.fr s), fun i o ho => (h.own i o ho).keep (.of_below hk fun _ _ h => h) fun g hg => hk.block g ((h.own i o ho).block_lt hg).2, h.new, h.inj, h.lt, h.fix, h.hb, h.hE⟩
end
end Go.Proofs.YtbbeldmcdjjnbaaDoor
namespace Go.Proofs.YtbbeldmcdjjnbaaDoor
open Go Go.RowKit
set_option linter.unusedSimpArgs false
set_option linter.unusedVariables false
/-- what such a function says -/
structure BCtr where
  args : List Ty
  pre : Args args → List Prop
  te : TypeId
  τ : Ty
  out : Args args → List τ.T
def BCtrOk (P : Program) (G : World → Prop) (f : FuncId) (c : BCtr) : Prop :=
  (∀ (as : Array Value) (w : World), (callFunc f as).run P w = .ok (.enter f as) w) ∧
  ∀ (w : World) (O : Nat → Prop) (xs : Args c.args) (vs : List Value), (∀ g, O g → g < w.heap.size) → RepA w O c.args xs vs → allP (c.pre xs) → G w →
    Calls P f vs.toArray w fun e w' => ∃ u, e = .returned (.agg #[u]) ∧ Below w.heap.size w w' ∧ OwnRep w' (fun g => O g ∨ blockOf u = some g) (fun _ => undef) w.heap.size u (.buf c.te c.τ (c.out xs))
def BCtr.ctr (c : BCtr) : Ctr := { args := c.args, pre := c.pre, res := .pair (.slice c.τ) .unit, own := none, out := fun x => (c.out x, ()) }
section
variable {P : Program} {K : Kn} {w0 w : World} {X : Ownr} {n : Nat} {σ : AS} {β : Nat → Value} {a : Act} {Q : Exit → AS → Prop} {ops : Array Oper}
theorem BCtrOk.ctr {G : World → Prop} {f : FuncId} {c : BCtr} (h : BCtrOk P G f c) : CtrOk P G f c.ctr := by
  refine ⟨h.1, fun w O xs vs hO ha hp hG => (h.2 w O xs vs hO ha hp hG).mono fun e w' ⟨u, he, hb, hr⟩ => ⟨_, he, hb, ?_⟩⟩
  have hv : RepD w' O (.slice c.τ) (c.out xs) u := hr.toView (fun g _ h => .inl h) fun g hg => hO g hg
  intro β
  exact ⟨[u], rfl, [u], [], rfl, hv, rfl⟩
theorem OwnRep.oneCell {w : World} {O : Nat → Prop} {B : Nat} {u : Value} {te : TypeId} {τ : Ty} {xs : List τ.T} (h : OwnRep w O β B u (.buf te τ xs)) : u.oneCell' = true := by
  obtain ⟨cs, _, h2, _⟩ := h
  rcases h2.2 with ⟨rfl, _⟩ | ⟨g, cap, cur, rfl, _⟩ <;> rfl
/-- the state behind such a call -/
def boxS (d : Nat) (te : TypeId) (τ : Ty) (xs : List τ.T) : AS → AS
  | ⟨F, E, nx⟩ => ⟨(d, ⟨.hcons (.obuf τ) .unit, (nx, ())⟩) :: F, (nx, some (.buf te τ xs)) :: E, nx + 1⟩
theorem call_box (hX : X.Ok w0) {f : FuncId} {c : BCtr} (hc : BCtrOk P X.G f c) {o : Oper} {args : Array Operand} {ts : Array TypeId} (ho : o.op = .call ⟨.value (.func f), args, ts⟩) {d : Nat} (hdst : o.dst = some d) (hd : Nat.blt d n = true) (hda : allData c.args = true)
    {p : List Prop} {xs : Args c.args} (harg : argsV σ.E false (args.toList.map (evO σ.F)) c.args = some (p, xs)) (hp : allP p) (hpre : allP (c.pre xs)) (h : Sim w0 X n σ β a w) {R : Exit → Act → World → Prop} {J : Act → World → Prop}
    (hI : ∀ β' a' w', Sim w0 X n (boxS d c.te c.τ (c.out xs) σ) β' a' w' → J a' w') : o.wp P a w J R := by
  have hd' : d < n := by simpa using hd
  obtain ⟨q1, q2⟩ := opArgs (F := σ.F) (O := OSet X σ.E β) (β := β) (w := w) (a := a) (x := .func f) (args := args) (ts := ts) fun y _ => h.ops y
  have ha := argsV_rep h.own hda harg hp q2 q1
  have hO : ∀ g, OSet X σ.E β g → g < w.heap.size := h.hO hX
  refine wp_enter ho hc.1 ((hc.2 w (fun g => false = false ∧ OSet X σ.E β g) xs _ (fun g h => hO g h.2) ha hpre (hX.2.2 w h.bel)).mono fun e w' ⟨u, he, hb, hr⟩ => ⟨_, he, ?_⟩)
  have hr : OwnRep w' (fun g => (false = false ∧ OSet X σ.E β g) ∨ blockOf u = some g) β w.heap.size u (.buf c.te c.τ (c.out xs)) := hr
  have hr : OwnRep w' (fun g => OSet X σ.E β g ∨ blockOf u = some g) β w.heap.size u (.buf c.te c.τ (c.out xs)) := hr.keep ⟨Nat.le_refl _, fun _ _ _ => rfl, fun g _ h => h.imp (fun h => ⟨rfl, h⟩) id⟩ fun _ _ => rfl
  rw [hdst]
  obtain ⟨β', hs⟩ := h.make hX hb (bv := u) (o := .buf c.te c.τ (c.out xs)) (v := ⟨.hcons (.obuf c.τ) .unit, (σ.nx, ())⟩) (u := .agg #[u]) (fun O β' hO => (hr.keep (O' := O) ⟨Nat.le_refl _, fun _ _ _ => rfl, fun g _ hg => hO g hg⟩ fun _ _ => rfl).base (Nat.zero_le _))
    (fun g hg => (hr.block_lt hg).1) (fun O β' hβ => ⟨u, [], rfl, hr.oneCell, hβ.symm, [], rfl, rfl⟩) (by show max (σ.nx + 1) 0 ≤ σ.nx + 1; omega) hd'
  exact hI β' _ _ hs
theorem loadAgg {τ : Ty} {t : TypeId} (h : Lay P τ (.inl t)) (ha : τ.isAgg = true) {g : Nat} {cs : List Value} (hl : cs.length = τ.size) (hc : CellsAt w g 0 cs) : (Go.loadVar t ⟨g, 0, none⟩).run P w = .ok (.agg cs.toArray) w := by
  unfold Go.loadVar
  simp only [Sem.run_bind, h.isAgg, Result.andThen_ok]
  have h2 := run_loadCells_list (P := P) w ⟨g, 0, none⟩ cs (fun j v hv => by rw [Addr.add_mid]; exact hc j v hv)
  rw [hl] at h2
  simp only [ha, if_true, Sem.run_bind, h.sizeOf, Result.andThen_ok, h2, Sem.run_pure]
theorem hload {T : Tbl} {L : List TypeId} (hT : TOk P T L) {t : TypeId} {τ τ' : Ty} (ht : tget T t = some (.pair (.slice τ) .unit)) {O : Nat → Prop} {B i g : Nat} {bv : Value} (h : OwnRep w O β B bv (.hbox [⟨.obuf τ', i⟩])) (hg : blockOf bv = some g) :
    (Go.loadVar t ⟨g, 0, none⟩).run P w = .ok (.agg #[β i]) w := by
  obtain ⟨cs, h2, h3⟩ := h.hcells hg
  obtain ⟨u, s, rfl, _, hu, hs⟩ := h2
  have hs : s = [] := hs
  have hu : u = β i := hu
  subst hs
  subst hu
  exact loadAgg (hT.lay _ _ ht) rfl rfl h3
/-- such a structure is loaded -/
theorem load_box {T : Tbl} {L : List TypeId} (hT : TOk P T L) {o : Oper} {t : TypeId} {x : Operand} (ho : o.op = .load t x) {d : Nat} (hdst : o.dst = some d) (hd : Nat.blt d n = true) {τ τ' : Ty} (ht : tget T t = some (.pair (.slice τ) .unit)) {i j : Nat} (hx : evO σ.F x = ⟨.hptr, (j, 0)⟩)
    (hj : Owns.get σ.E j = some (.hbox [⟨.obuf τ', i⟩])) {te : TypeId} {xs : List τ.T} (hi : Owns.get σ.E i = some (.buf te τ xs)) (h : Sim w0 X n σ β a w) {R : Exit → Act → World → Prop} {J : Act → World → Prop}
    (hI : ∀ a' w', Sim w0 X n ⟨(d, ⟨.hcons (.obuf τ') .unit, (i, ())⟩) :: σ.F, σ.E, σ.nx⟩ β a' w' → J a' w') : o.wp P a w J R := by
  have hd' : d < n := by simpa using hd
  have hv := h.ops x
  rw [hx] at hv
  obtain ⟨g, hg, hv⟩ : ∃ g, blockOf (β j) = some g ∧ a.eval x = .pointer (some ⟨g, 0, none⟩) := hv
  have hl := hload hT ht (h.own j _ hj) hg
  refine wp_run (u := .agg #[β i]) (w' := w) ?_ ?_
  · unfold execOp
    simp only [ho, hv]
    exact run_v (by simpa [Instr.loadAt, Instr.sureAddr] using hl)
  · rw [hdst]
    refine hI _ _ (h.put (Below.refl _ _) (v := ⟨.hcons (.obuf τ') .unit, (i, ())⟩) ⟨β i, [], rfl, (h.own i _ hi).oneCell, rfl, [], rfl, rfl⟩ ?_ hd')
    have := h.lt i _ hi
    show max (i + 1) 0 ≤ σ.nx
    omega
def DoneB (T : Tbl) (rs : List ResultVar) (σ : AS) (te : TypeId) (τ : Ty) (xs : List τ.T) : Prop := ∃ (s j i : Nat) (t : TypeId) (τ' : Ty), rs = [.cell s t] ∧ tget T t = some (.pair (.slice τ) .unit) ∧ Frame.get σ.F s = ⟨.hptr, (j, 0)⟩ ∧ Owns.get σ.E j = some (.hbox [⟨.obuf τ', i⟩]) ∧ Owns.get σ.E i = some (.buf te τ xs)
end
section
variable {P : Program} {K : Kn} {n : Nat}
/-- such a function's contract out of a walk -/
theorem bctr_of_awp {G : World → Prop} (hK : KnOk P G K) {f : FuncId} {fn : Func} {c : Code} {ctr : BCtr} (hf : P.funcs[f]? = some fn) (hb : fn.body = some c) (hn : fn.ntmps = n)
    (hen : ∀ (as : Array Value) (w : World), (callFunc f as).run P w = .ok (.enter f as) w) (hd : allData ctr.args = true) (hlen : ctr.args.length ≤ n)
    (h : ∀ (w0 : World) (X : Nat → Prop), (Ownr.plain G X).Ok w0 → ∀ xs : Args ctr.args, allP (ctr.pre xs) → AWP P w0 (Ownr.plain G X) n c (initS ctr.args xs) (fun e σ => (e = .normal ∨ e = .ret) ∧ DoneB K.T fn.results.toList σ ctr.te ctr.τ (ctr.out xs))) : BCtrOk P G f ctr := by
  refine ⟨hen, fun w O xs vs hO hrep hp hG => calls_of_wp hf hb ?_⟩
  have hvl := repA_len _ _ _ hrep
  let X : Ownr := Ownr.plain G O
  have hXR : ∀ g, ¬ X.R g := Ownr.plain_noR _ _
  have hX : X.Ok w := ⟨fun g hg => ⟨hO g hg, hXR g⟩, fun g hg => (hXR g hg).elim, fun w' hk => hK.st w w' hG (hk.below hXR)⟩
  have hsim : Sim w X n (initS ctr.args xs) (fun _ => undef) { tmps := vs.toArray ++ Array.replicate (fn.ntmps - vs.toArray.size) undef, defers := [] } w := by
    have hE : OSet X (initS ctr.args xs).E (fun _ => undef) = O := by
      funext g
      apply propext
      constructor
      · rintro (h | ⟨i, o, h, _⟩)
        · exact h
        · cases h
      · exact fun h => .inl h
    refine ⟨by simp [hn, hvl]; omega, rfl, Kept.refl _ _, fun s => ?_, fun i o h => (by cases h), fun i o g h => (by cases h), fun i j oi oj h => (by cases h), fun i o h => (by cases h), ⟨Nat.zero_le _, fun i h => (by cases h)⟩, fun s => ?_, fun i o h => (by cases h)⟩
    · rw [hE]
      have := initF_rep (β := fun _ => undef) ctr.args xs vs [] (List.replicate (fn.ntmps - vs.length) undef) hd hrep s
      simp only [List.nil_append, List.length_nil] at this
      have e : (vs.toArray ++ Array.replicate (fn.ntmps - vs.toArray.size) undef) = (vs ++ List.replicate (fn.ntmps - vs.length) undef).toArray := by simp
      show RepV w O _ _ _ ((vs.toArray ++ Array.replicate (fn.ntmps - vs.toArray.size) undef).getD s undef)
      rw [e]
      exact this
    · show (Frame.get (initF ctr.args xs 0) s).bound ≤ 0
      rw [initF_bound _ _ _ _ hd]
      exact Nat.le_refl _
  refine wp_mono (wpIn_wide.1 (h w O hX xs hp _ _ _ hsim)) fun e a' w' ⟨σ', β', h1, h2, h3⟩ => ?_
  obtain ⟨s, j, i, t, τ', hr, ht, hs, hj, hi⟩ := h3
  have hf1 := h1.fr s
  rw [hs] at hf1
  obtain ⟨g, hg, hf1⟩ : ∃ g, blockOf (β' j) = some g ∧ a'.tmps.getD s undef = .pointer (some ⟨g, 0, none⟩) := hf1
  have hl := hload hK.t ht (h1.own j _ hj) hg
  obtain ⟨u, hu2⟩ : ∃ u, u = β' i := ⟨_, rfl⟩
  rw [← hu2] at hl
  have hbel := h1.bel.below hXR
  have hres : (results fn a'.tmps).run P w' = .ok (.agg #[u]) w' := by
    have hm : (fn.results.mapM (resM a'.tmps)).run P w' = .ok #[.agg #[u]] w' := by
      rw [Array.mapM_eq_mapM_toList, hr]
      simp [resM, hf1, asAddr, hl]
    rw [results_eq, Sem.run_bind, hm]
    simp
  have hown : OwnRep w' (fun g => O g ∨ blockOf u = some g) (fun _ => undef) w.heap.size u (.buf ctr.te ctr.τ (ctr.out xs)) := by
    rw [hu2]
    have h4 : OwnRep w' (fun g => O g ∨ blockOf (β' i) = some g) β' w.heap.size (β' i) (.buf ctr.te ctr.τ (ctr.out xs)) := by
      refine OwnRep.keep (OwnRep.raise (h1.own i _ hi) fun g hg => ?_) ⟨Nat.le_refl _, fun _ _ _ => rfl, fun g _ hg => hg.imp id fun hg => ⟨i, _, hi, hg⟩⟩ fun _ _ => rfl
      rcases h1.new i _ g hi hg with h4 | h4
      · exact h4
      · exact (hXR g h4).elim
    exact h4
  rcases h2 with rfl | rfl
  · exact ⟨h1.df, _, hres, u, rfl, hbel, hown⟩
  · exact ⟨h1.df, _, hres, u, rfl, hbel, hown⟩
end
end Go.Proofs.YtbbeldmcdjjnbaaDoor
