/-
  'for x := range f': an iterator that hands out lists in memory of its own; the caller's law. No program is read here.
-/
import Derived.Test.YtpepbnieocdpbaaDoorAbsKn
import Derived.RangeFuncKeeps
import Derived.RangeFuncCalls
namespace Go.Proofs.YtpepbnieocdpbaaDoor
open Go Go.RowKit
set_option linter.unusedSimpArgs false
set_option linter.unusedVariables false

/-- what lay from B on lies as it lay -/
structure KeptFrom (B : Nat) (w w' : World) : Prop where
  os : w'.os = w.os
  tape : w'.tape = w.tape
  output : w'.output = w.output
  size : w.heap.size ≤ w'.heap.size
  block : ∀ k, B ≤ k → k < w.heap.size → w'.heap[k]? = w.heap[k]?
/-- the iterator's word: it hands out these lists, each in memory that nobody knew when it began -/
def SeqBlk (P : Program) (n : Nat) (gf : Nat) (lb : Array Value) (t : Ty) (blks : List t.T) (w : World) : Prop :=
  ∀ (l : Nat) (J : Nat → World → Prop) (W : World), Below w.heap.size w W → (∀ k A C, J k A → Below W.heap.size A C → J k C) →
    (∀ k x y W1, J k W1 → blks[k]? = some y → W.heap.size ≤ W1.heap.size → RepD W1 (fun g => g < W.heap.size) t y x → YieldAt Fence.wide (n - 1) P l #[x] W1 fun e W' => e = .returned (.bool true) ∧ J (k + 1) W' ∧ KeptFrom W.heap.size W1 W') →
    J 0 W →
    CallsIn Fence.wide n P gf (#[.func (.yield l) #[] #[]] ++ lb) W fun e W' => (∃ v, e = .returned v) ∧ J blks.length W'
theorem KeptFrom.trans {B : Nat} {a b c : World} (h : KeptFrom B a b) (k : KeptFrom B b c) : KeptFrom B a c :=
  ⟨k.os.trans h.os, k.tape.trans h.tape, k.output.trans h.output, Nat.le_trans h.size k.size, fun i hi hl => (k.block i hi (Nat.lt_of_lt_of_le hl h.size)).trans (h.block i hi hl)⟩
theorem below_putObj {B : Nat} {W : World} {l : Nat} {o o' : Obj} (h : W.heap[l]? = some o) (hB : B ≤ l) : Below B W (W.putObj l o') :=
  (Below.refl B W).grown (grownBy_putObj' W l o') (by have := (Array.getElem?_eq_some_iff.1 h).1; omega) (fun k e => by cases e; omega)
theorem keptFrom_putObj {B : Nat} {W : World} {l : Nat} {o o' : Obj} (h : W.heap[l]? = some o) (hB : l < B) : KeptFrom B W (W.putObj l o') :=
  have hg := grownBy_putObj' W l o'
  ⟨hg.os, hg.tape, hg.output, hg.size, fun k hk hkl => hg.block k hkl fun e => by cases e; omega⟩
/-- the caller's law -/
theorem wp_rangeBlk {P : Program} {n : Nat} {g : Operand} {p : Tmp} {assign body : Code} {Q : Exit → Act → World → Prop} {a : Act} {w : World} {gf : Nat} {lb : Array Value} (hg : a.eval g = .func (.func gf) #[] lb) (eg : ∀ args w, (callFunc gf args).run P w = .ok (.enter gf args) w)
    {t : Ty} {blks : List t.T} {w0 : World} (hseq : SeqBlk P (n - 1) gf lb t blks w0) (hb0 : Below w0.heap.size w0 w)
    (I : Nat → World → Prop) (hI : ∀ k A C, I k A → Below w.heap.size A C → I k C) (h0 : I 0 w) (a₁ : Value → Act)
    (hassign : ∀ (l : Nat) (x : Value) (W : World) (K : Act → World → Prop), K (a₁ x) W → assign.wpIn (Fence.wide.inRound l) (n - 1 - 1) P (Exit.then K (fun _ _ _ => False)) { tmps := ((#[p] : Array Tmp).zip #[x]).foldl (fun t (p, v) => t.setIfInBounds p v) a.tmps, defers := [] } W)
    (hbody : ∀ (l k : Nat) (x : Value) (y : t.T) (W : World), I k W → blks[k]? = some y → w.heap.size + 2 ≤ W.heap.size → RepD W (fun g => g < w.heap.size + 2) t y x →
      body.wpIn (Fence.wide.inRound l) (n - 1 - 1) P (fun e _ W' => e = .normal ∧ KeptFrom w.heap.size W W' ∧ I (k + 1) W') (a₁ x) W)
    (hdone : ∀ W : World, I blks.length W → W.heap[w.heap.size]? = some (.deferred (some [])) → Q .normal { a with defers := { target := .collected w.heap.size, args := #[] } :: a.defers } W) :
    (Code.rangeFunc g #[p] assign body).wp P Q a w := by
  refine (wpIn_wide (n := n)).1 (wpIn_rangeFunc ?_)
  intro fn hfn
  obtain ⟨rec, hrec⟩ : ∃ rec : LoopState → Option Code → Loop, rec = fun st pe => { state := st, pending := pe, fn, tmps := a.tmps, params := #[p], assign, body, defers := w.heap.size } := ⟨_, rfl⟩
  obtain ⟨W1, hW1⟩ : ∃ W1, (w.alloc (.deferred (some []))).alloc (.loop (rec .ready none)) = W1 := ⟨_, rfl⟩
  have hs1 : W1.heap.size = w.heap.size + 2 := by rw [← hW1]; simp
  have hL1 : W1.heap[w.heap.size + 1]? = some (.loop (rec .ready none)) := by
    rw [← hW1]; have := World.alloc_heap_new (w.alloc (.deferred (some []))) (.loop (rec .ready none)); rwa [World.size_alloc] at this
  have hK1 : W1.heap[w.heap.size]? = some (.deferred (some [])) := by
    rw [← hW1]; exact (Below.heap_alloc _ _ _ (by simp)).trans (World.alloc_heap_new w _)
  have hb1' : Below w.heap.size w W1 := by rw [← hW1]; exact ((Below.refl _ w).alloc (Nat.le_refl _) _).alloc (by simp) _
  have hI1 : I 0 W1 := hI 0 _ _ h0 hb1'
  have hb1 : Below w0.heap.size w0 W1 := hb0.trans (hb1'.mono hb0.size)
  refine ⟨w.heap.size + 1, [{ target := .collected w.heap.size, args := #[] }], W1, { target := .fn (.func gf) lb, args := #[.func (.yield (w.heap.size + 1)) #[] #[]] }, W1, gf,
    #[.func (.yield (w.heap.size + 1)) #[] #[]] ++ lb, W1, ?_, ?_, ?_, ?_, (fun h => by cases h), ?_⟩
  · rw [← hW1, hrec]; exact run_enterLoop_outer _ _ _ _ _
  · simp only [resolve, hg]
    simp [go_sem]
  · intro f' hf'; trivial
  · simp [invoke, go_sem, eg]
  · refine (hseq (w.heap.size + 1) (fun k W => I k W ∧ W.heap[w.heap.size + 1]? = some (.loop (rec .ready none)) ∧ W.heap[w.heap.size]? = some (.deferred (some []))) W1 hb1
      (fun k A C hs hb => ⟨hI k A C hs.1 (hb.mono (by omega)), (hb.block _ (by omega)).trans hs.2.1, (hb.block _ (by omega)).trans hs.2.2⟩) ?_ ⟨hI1, hL1, hK1⟩).mono ?_
    · rintro k x y W ⟨hi, hl, hk⟩ hy1 hsz hx
      have hlt : w.heap.size + 1 < W.heap.size := (Array.getElem?_eq_some_iff.1 hl).1
      have hy := run_yield (P := P) (args := #[x]) hl (by rw [hrec]; rfl)
      rw [hrec] at hy
      refine ⟨fn, _, assign, body, hy, roundIn_of_wpIn hfn ?_⟩
      have hl2 : (W.putObj (w.heap.size + 1) (.loop { rec .ready none with state := .busy })).heap[w.heap.size + 1]? = some (.loop { rec .ready none with state := .busy }) := World.putObj_heap_same hlt
      have hk2 : (W.putObj (w.heap.size + 1) (.loop { rec .ready none with state := .busy })).heap[w.heap.size]? = some (.deferred (some [])) := (World.putObj_heap_other (by omega)).trans hk
      have hw2 : KeptFrom W1.heap.size W (W.putObj (w.heap.size + 1) (.loop { rec .ready none with state := .busy })) := keptFrom_putObj hl (by omega)
      have hx2 : RepD (W.putObj (w.heap.size + 1) (.loop { rec .ready none with state := .busy })) (fun g => g < w.heap.size + 2) t y x :=
        hx.keep ⟨hw2.size, fun g hg hn => hw2.block g (by omega) hg, fun g _ hg => by show g < W1.heap.size; omega⟩
      refine hassign _ x W _ ?_
      refine ⟨_, run_beginRound hl (by rw [hrec]), ?_⟩
      refine wpIn_mono (hbody _ k x y _ (hI k _ _ hi (below_putObj hl (by omega))) hy1 (Nat.le_trans (by omega) hw2.size) hx2) ?_
      rintro e a3 W3 ⟨rfl, hk3, hi3⟩
      have hl3 : W3.heap[w.heap.size + 1]? = some (.loop { rec .ready none with state := .busy }) := (hk3.block _ (by omega) (Array.getElem?_eq_some_iff.1 hl2).1).trans hl2
      have hd3 : W3.heap[w.heap.size]? = some (.deferred (some [])) := (hk3.block _ (by omega) (Array.getElem?_eq_some_iff.1 hk2).1).trans hk2
      have hr := run_endRound (P := P) none hl3
      refine ⟨_, _, hr, rfl, ⟨hI _ _ _ hi3 (below_putObj hl3 (by omega)), ?_, (World.putObj_heap_other (by omega)).trans hd3⟩, (hw2.trans ⟨hk3.os, hk3.tape, hk3.output, hk3.size, fun g hg hgl => hk3.block g (by omega) hgl⟩).trans (keptFrom_putObj hl3 (by omega))⟩
      rw [World.putObj_heap_same (Array.getElem?_eq_some_iff.1 hl3).1, hrec]
      rfl
    · rintro e W2 ⟨⟨v, rfl⟩, hi, hl, hk⟩
      exact ⟨none, _, by have := run_endLoop (P := P) hl (by rw [hrec]; simp); rw [hrec] at this; exact this, hdone _ (hI _ _ _ hi (below_putObj hl (by omega))) ((World.putObj_heap_other (by omega)).trans hk)⟩
/-- from every activation and world that stand for σ the code comes to what R says -/
def RWP (P : Program) (w0 : World) (X : Ownr) (n : Nat) (c : Code) (σ : AS) (R : Exit → Act → World → Prop) : Prop := ∀ β a w, Sim w0 X n σ β a w → c.wpIn (wideR X.ρ) 0 P R a w
theorem RWP.seq {P : Program} {w0 : World} {X : Ownr} {n : Nat} {x y : Code} {σ : AS} {R : Exit → Act → World → Prop} (h : AWP P w0 X n x σ (thenQ (fun σ' => RWP P w0 X n y σ' R) (fun _ _ => False))) : RWP P w0 X n (.seq x y) σ R :=
  fun β a w hs => wpIn_seq (Go.wpIn_mono (h β a w hs) fun e a' w' ⟨σ', β', h1, h2⟩ => by
    cases e with
    | normal => exact h2 β' a' w' h1
    | _ => exact h2.elim)
theorem RWP.of {P : Program} {w0 : World} {X : Ownr} {n : Nat} {c : Code} {σ : AS} {Q : Exit → AS → Prop} {R : Exit → Act → World → Prop} (h : AWP P w0 X n c σ Q) (hR : ∀ e σ' β' a' w', Sim w0 X n σ' β' a' w' → Q e σ' → R e a' w') : RWP P w0 X n c σ R :=
  fun β a w hs => Go.wpIn_mono (h β a w hs) fun e a' w' ⟨σ', β', h1, h2⟩ => hR e σ' β' a' w' h1 h2
/-! ### a state out of nothing, a state begun anew -/
theorem OSet.nil {X : Ownr} {β : Nat → Value} : OSet X [] β = X.X := by
  funext g
  apply propext
  constructor
  · rintro (h | ⟨i, o, h, _⟩)
    · exact h
    · cases h
  · exact fun h => .inl h
theorem rep_cons {w : World} {O : Nat → Prop} {β : Nat → Value} {F : Frame} {ts : Array Value} {s : Nat} {v : V} (h : RepV w O β v.t v.x (ts.getD s undef)) (hF : ∀ t, RepV w O β (Frame.get F t).t (Frame.get F t).x (ts.getD t undef)) :
    ∀ t, RepV w O β (Frame.get ((s, v) :: F) t).t (Frame.get ((s, v) :: F) t).x (ts.getD t undef) := by
  intro t
  rw [Frame.get_cons]
  by_cases hs : s = t
  · rw [if_pos hs, ← hs]; exact h
  · rw [if_neg hs]; exact hF t
theorem getD_app {a b : Array Value} {i : Nat} (h : i < a.size) : (a ++ b).getD i undef = a.getD i undef := by
  simp [Array.getD_eq_getD_getElem?, Array.getElem?_append, h]
theorem rep_nil {w : World} {O : Nat → Prop} {β : Nat → Value} {ts : Array Value} : ∀ t, RepV w O β (Frame.get ([] : Frame) t).t (Frame.get ([] : Frame) t).x (ts.getD t undef) := fun _ => trivial
section
variable {w0 w w' : World} {X : Ownr} {n : Nat} {σ : AS} {F F' : Frame} {β : Nat → Value} {a : Act}
theorem Sim.fresh (hK : X.K = 0) (hsz : a.tmps.size = n) (hdf : a.defers = X.D) (hfr : ∀ s, RepV w X.X β (Frame.get F s).t (Frame.get F s).x (a.tmps.getD s undef)) (hb : bndB 0 F = true) : Sim w X n ⟨F, [], 0⟩ β a w :=
  ⟨hsz, hdf, Kept.refl _ _, fun s => by rw [OSet.nil]; exact hfr s, fun i o h => (by cases h), fun i o g h => (by cases h), fun i j oi oj h => (by cases h), fun i o h => (by cases h), ⟨by rw [hK]; exact Nat.le_refl _, fun i h => by rw [hK] at h; cases h⟩, fun s => bndB_get hb s⟩
theorem Sim.rebase (h : Sim w0 X n σ β a w) (hE : σ.E = []) (hK : X.K = 0) (hF : Sub σ.F F') (hb : bndB 0 F' = true) : Sim w X n ⟨F', [], 0⟩ β a w :=
  Sim.fresh hK h.sz h.df (fun s => by
    have h1 := (h.weaken hF.get).fr s
    rw [show ({ σ with F := F' } : AS).E = [] from hE, OSet.nil] at h1
    exact h1) hb
/-- a round has passed: what lay from B on lies -/
theorem Sim.round {B : Nat} (h : Sim w0 X n σ β a w) (hE : σ.E = []) (hXB : ∀ g, g < B → X.X g) (hK : X.K = 0) (hk : KeptFrom B w w') (hF : Sub σ.F F') (hb : bndB 0 F' = true) : Sim w' X n ⟨F', [], 0⟩ β a w' :=
  Sim.fresh hK h.sz h.df (fun s => by
    have h1 := (h.weaken hF.get).fr s
    rw [show ({ σ with F := F' } : AS).E = [] from hE, OSet.nil] at h1
    refine RepV.keep ⟨hk.size, fun g hg hn => hk.block g ?_ hg, fun g _ h => h⟩ _ _ _ h1
    rcases Nat.lt_or_ge g B with h2 | h2
    · exact (hn (hXB g h2)).elim
    · exact h2) hb
theorem OwnRep.flat {O O' : Nat → Prop} {B : Nat} {bv : Value} {te : TypeId} {t : Ty} {xs : List t.T} (ht : t.flat = true) (h : OwnRep w O B bv (.buf te t xs)) : OwnRep w O' B bv (.buf te t xs) := by
  obtain ⟨cs, h1, h2, h3⟩ := h
  exact ⟨cs, h1.mono fun x _ c hc => repC_flat t ht x c hc, h2, h3⟩
end
/-- begun anew behind a loop: what the call owns is known by its blocks -/
theorem Sim.anchor {w0 w : World} {X : Ownr} {n : Nat} {σ : AS} {β : Nat → Value} {a : Act} (h : Sim w0 X n σ β a w) (fix : Nat → Nat) (hfix : ∀ i, i < σ.nx → blockOf (β i) = some (fix i) ∧ ∀ o, Owns.get σ.E i = some o → o.isBuf = false) (D : List Deferred) :
    Sim w { X with K := σ.nx, fix := fix, D := D } n σ β { a with defers := D } w :=
  ⟨h.sz, rfl, Kept.refl _ _, h.fr, h.own, fun i o g hi hg => .inr ⟨i, h.lt i o hi, by
    have h1 := (hfix i (h.lt i o hi)).1
    rw [hg] at h1
    exact (Option.some.inj h1).symm⟩, h.inj, h.lt, ⟨Nat.le_refl _, hfix⟩, h.hb⟩
section
variable {P : Program} {ρ : Option Nat} {n : Nat} {ops : Array Oper} {a : Act} {w : World}
theorem wpListIn_move {o : Oper} {rest : List Oper} {x : Operand} (ho : o.op = .move x ∨ o.op = .assign x) (hg : o.guard = none) {R : Exit → Act → World → Prop} (h : wpListIn (wideR ρ) n P ops R rest (a.put o.dst (a.eval x)) w) : wpListIn (wideR ρ) n P ops R (o :: rest) a w := by
  refine wpListIn_plain hg fun K hK => wpIn_of_wp (fun c e => ?_) (wp_run (u := a.eval x) (w' := w) ?_ (hK _ _ h))
  · rcases ho with ho | ho <;> (rw [e] at ho; cases ho)
  · unfold execOp
    rcases ho with ho | ho <;> simp [ho]
end
theorem YieldAt.any {P : Program} {m m' l : Nat} {args : Array Value} {W : World} {R : Ending → World → Prop} (h : YieldAt Fence.wide m P l args W R) : YieldAt Fence.wide m' P l args W R := by
  obtain ⟨fn, tmps, assign, body, h1, h2⟩ := h
  exact ⟨fn, tmps, assign, body, h1, h2.1, fun c cs _ => h2.2 c cs (room_wide _)⟩
theorem RoundIn.anyN {P : Program} {m m' l : Nat} {f : FuncId} {tmps : Array Value} {assign body : Code} {W : World} {R : Ending → World → Prop} (h : RoundIn Fence.wide m P l f tmps assign body W R) : RoundIn Fence.wide m' P l f tmps assign body W R :=
  ⟨h.1, fun c cs _ => h.2 c cs (room_wide _)⟩
/-! ### a block that is no cells turns -/
structure KeepsC (w w' : World) : Prop where
  size : w.heap.size ≤ w'.heap.size
  block : ∀ (g : Nat) cs ty fz, w.heap[g]? = some (.cells cs ty fz) → w'.heap[g]? = some (.cells cs ty fz)
section
variable {w w' : World} {O : Nat → Prop} {β : Nat → Value}
theorem CellsAt.keepC {g off : Nat} {vs : List Value} (h : CellsAt w g off vs) (hk : KeepsC w w') : CellsAt w' g off vs := fun j u hu => by
  have h1 := h j u hu
  have hb : ∃ cs ty fz, w.heap[g]? = some (.cells cs ty fz) := by
    unfold World.cell? at h1
    cases ho : w.heap[g]? with
    | none => simp [ho] at h1
    | some o => cases o <;> first | exact ⟨_, _, _, rfl⟩ | (simp [ho] at h1)
  obtain ⟨cs, ty, fz, hb⟩ := hb
  exact (World.cell?_of_block (w := w) ((hk.block g cs ty fz hb).trans hb.symm)).trans h1
theorem RepS.keepC {α : Type} {R R' : α → List Value → Prop} {xs : List α} {v : Value} (h : RepS w O R xs v) (hk : KeepsC w w') (hr : ∀ x c, R x c → R' x c) : RepS w' O R' xs v := by
  rcases h with h | ⟨g, off, c, vs, h1, h2, h3, h4, h5, h6, h7, h8⟩
  · exact .inl h
  · exact .inr ⟨g, off, c, vs, h1, h2, h3, h4, Nat.lt_of_lt_of_le h5 hk.size, h6, h7.mono fun x _ c => hr x c, h8.keepC hk⟩
theorem RepC.keepC (hk : KeepsC w w') : ∀ (t : Ty) (x : t.T) (cs : List Value), RepC w O t x cs → RepC w' O t x cs := by
  intro t
  induction t with
  | pair a b iha ihb => rintro x cs ⟨c1, c2, h, h1, h2⟩; exact ⟨c1, c2, h, iha _ _ h1, ihb _ _ h2⟩
  | arr n t ih => rintro x cs ⟨h1, h2⟩; exact ⟨h1, h2.mono fun x _ c => ih x c⟩
  | slice t ih => rintro x cs ⟨v, h, h2⟩; exact ⟨v, h, h2.keepC hk ih⟩
  | _ => intro x cs h; exact h
theorem RepD.keepC (hk : KeepsC w w') {t : Ty} {x : t.T} {v : Value} (h : RepD w O t x v) : RepD w' O t x v := by
  unfold RepD at *
  split at h
  · rename_i ht
    obtain ⟨cs, h1, h2⟩ := h
    rw [if_pos ht]
    exact ⟨cs, h1, RepC.keepC hk _ _ _ h2⟩
  · rename_i ht
    rw [if_neg ht]
    exact RepC.keepC hk _ _ _ h
theorem RepTup.keepC (hk : KeepsC w w') : ∀ (t : Ty) (x : t.T) (vs : List Value), RepTup w O t x vs → RepTup w' O t x vs := by
  intro t
  induction t with
  | tup a b iha ihb => rintro x vs ⟨v, r, h, h1, h2⟩; exact ⟨v, r, h, h1.keepC hk, ihb _ _ h2⟩
  | unit => intro x vs h; exact h
  | _ => intro x vs h; exact absurd h (by simp [RepTup])
theorem RepV.keepC (hk : KeepsC w w') : ∀ (t : Ty) (x : t.T) (v : Value), RepV w O β t x v → RepV w' O β t x v := by
  intro t
  induction t with
  | junk => intro x v h; exact h
  | lit => intro x v h; exact h
  | vptr t _ =>
    rintro x v ⟨g, off, cs, h1, h2, h3, h4, h5⟩
    exact ⟨g, off, cs, h1, Nat.lt_of_lt_of_le h2 hk.size, h3, RepC.keepC hk _ _ _ h4, h5.keepC hk⟩
  | optr t _ => intro x v h; exact h
  | obuf t _ => intro x v h; exact h
  | tup a b _ _ => rintro x v ⟨vs, h1, h2⟩; exact ⟨vs, h1, RepTup.keepC hk _ _ _ h2⟩
  | cond t ih => intro x v h; exact ⟨fun hc => ih _ _ (h.1 hc), h.2⟩
  | _ => intro x v h; exact RepD.keepC hk h
theorem OwnRep.keepC {B : Nat} {bv : Value} {o : OObj} (h : OwnRep w O B bv o) (hk : KeepsC w w') : OwnRep w' O B bv o := by
  cases o with
  | box t x =>
    obtain ⟨g', cs, ty, rfl, h1, h2, h3⟩ := h
    exact ⟨g', cs, ty, rfl, h1, hk.block _ _ _ _ h2, RepC.keepC hk _ _ _ h3⟩
  | buf te t xs =>
    obtain ⟨cs, h1, h2, h3⟩ := h
    refine ⟨cs, h1.mono fun x _ c => RepC.keepC hk _ _ _, ⟨h2.1, ?_⟩, h3⟩
    rcases h2.2 with h4 | ⟨g', cap, cur, rfl, h4, h5, h6⟩
    · exact .inl h4
    · exact .inr ⟨g', cap, cur, rfl, h4, hk.block _ _ _ _ h5, h6⟩
theorem keepsC_putObj {D : Nat} {x : Option (List Deferred)} {o : Obj} (hD : w.heap[D]? = some (.deferred x)) : KeepsC w (w.putObj D o) := by
  have hg := grownBy_putObj' w D o
  refine ⟨hg.size, fun g cs ty fz h => (hg.block g (Array.getElem?_eq_some_iff.1 h).1 fun e => ?_).trans h⟩
  cases e
  rw [hD] at h
  cases h
end
theorem Seen.keepC {w0 w w' : World} {X : Ownr} {σ : AS} {β : Nat → Value} {a : Act} (h : Seen w0 X σ β a w) (hk : KeepsC w w') : Seen w0 X σ β a w' :=
  ⟨fun s => RepV.keepC hk _ _ _ (h.fr s), fun i o hi => (h.own i o hi).keepC hk, h.new⟩
/-- a function that ranged over a function leaves: the block of the rounds' deferred calls is shut, the results are read -/
theorem leaves_mark {P : Program} {K : Kn} {w0 w : World} {X : Ownr} {n D : Nat} {σ : AS} {β : Nat → Value} {a : Act} {m : Nat} (hK : KnOk P X.G K) (hX : X.Ok w0) (h : Sim w0 X n σ β a w) (hXD : X.D = [{ target := .collected D, args := #[] }]) (hD : w.heap[D]? = some (.deferred (some []))) {fn : Func} {own : Option TypeId} {t : Ty} {x : t.T}
    (hd : Done K.T fn.results.toList σ own t x) (hR : own = none ∨ ∀ g, ¬ X.R g) {R : Ending → World → Prop} (hQ : ∀ v, (t = .unit ∨ ResRel (w.putObj D (.deferred none)) X.X w0.heap.size own t x v) → R (.returned v) (w.putObj D (.deferred none))) :
    LeavesInM Fence.wide m P fn a.tmps R a.defers .returning w := by
  rw [h.df, hXD]
  refine ⟨by simp, .inl ⟨_, _, rfl, run_takeDeferred hD, ?_⟩⟩
  obtain ⟨v, h1, h2⟩ := done_res hK hX (h.seen.keepC (keepsC_putObj hD)) hd hR
  exact ⟨v, h1, hQ v h2⟩
end Go.Proofs.YtpepbnieocdpbaaDoor
