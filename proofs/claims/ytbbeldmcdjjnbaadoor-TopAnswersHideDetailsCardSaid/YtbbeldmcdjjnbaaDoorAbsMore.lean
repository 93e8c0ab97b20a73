/-
  'for x := range f': an iterator that hands out lists in memory of its own; the caller's law. No program is read here.
  A variable of the call's own that is written no more is given away: pointers to it become pointers to what stays. A copy into an array variable. No program is read here.
  Arguments that can be read as data are plain values; a contract that says 'true' gives a law's statement. No program is read here.
  A statement with a label of its own, which no goto leaves. No program is read here.
  A region that draws its order, walked in each order that it may draw. No program is read here.
  A row that is made, stored into an own slice of slices and filled there: as if it were filled first. No program is read here.
-/
import Derived.Test.YtbbeldmcdjjnbaaDoorAbsCode
import Derived.RangeFuncKeeps
import Derived.RangeFuncCalls
import Derived.Laws.CopyOwn
import Derived.ProofKit
import Derived.OpenShut
import Derived.Carry
import Derived.ChangeSame
import Derived.Deep.DeepHandedRow
import Derived.Lib.LaidTab
namespace Go.Proofs.YtbbeldmcdjjnbaaDoor
open Go Go.RowKit
set_option linter.unusedSimpArgs false
set_option linter.unusedVariables false

/-- what lay from B on lies as it lay -/
structure KeptFrom (B : Nat) (w w' : World) : Prop where
  os : w'.os = w.os
  tape : w'.tape = w.tape
  output : w'.output = w.output
  size : w.heap.size ≤ w'.heap.size
  block : ∀ k, B ≤ k → k < w.heap.size → w'.heap[k]? = w.heap[k]?
/-- the iterator's word: it hands out these lists, each in memory that nobody knew when it began -/
def SeqBlk (P : Program) (n : Nat) (gf : Nat) (lb : Array Value) (t : Ty) (blks : List t.T) (w : World) : Prop :=
  ∀ (l : Nat) (J : Nat → World → Prop) (W : World), Below w.heap.size w W → (∀ k A C, J k A → Below W.heap.size A C → J k C) →
    (∀ k x y W1, J k W1 → blks[k]? = some y → W.heap.size ≤ W1.heap.size → RepD W1 (fun g => g < W.heap.size) t y x → YieldAt Fence.wide (n - 1) P l #[x] W1 fun e W' => e = .returned (.bool true) ∧ J (k + 1) W' ∧ KeptFrom W.heap.size W1 W') →
    J 0 W →
    CallsIn Fence.wide n P gf (#[.func (.yield l) #[] #[]] ++ lb) W fun e W' => (∃ v, e = .returned v) ∧ J blks.length W'
theorem KeptFrom.trans {B : Nat} {a b c : World} (h : KeptFrom B a b) (k : KeptFrom B b c) : KeptFrom B a c :=
  ⟨k.os.trans h.os, k.tape.trans h.tape, k.output.trans h.output, Nat.le_trans h.size k.size, fun i hi hl => (k.block i hi (Nat.lt_of_lt_of_le hl h.size)).trans (h.block i hi hl)⟩
theorem below_putObj {B : Nat} {W : World} {l : Nat} {o o' : Obj} (h : W.heap[l]? = some o) (hB : B ≤ l) : Below B W (W.putObj l o') :=
  (Below.refl B W).grown (grownBy_putObj' W l o') (by have := (Array.getElem?_eq_some_iff.1 h).1; omega) (fun k e => by cases e; omega)
theorem keptFrom_putObj {B : Nat} {W : World} {l : Nat} {o o' : Obj} (h : W.heap[l]? = some o) (hB : l < B) : KeptFrom B W (W.putObj l o') :=
  have hg := grownBy_putObj' W l o'
  ⟨hg.os, hg.tape, hg.output, hg.size, fun k hk hkl => hg.block k hkl fun e => by cases e; omega⟩
/-- the caller's law -/
theorem wp_rangeBlk {P : Program} {n : Nat} {g : Operand} {p : Tmp} {assign body : Code} {Q : Exit → Act → World → Prop} {a : Act} {w : World} {gf : Nat} {lb : Array Value} (hg : a.eval g = .func (.func gf) #[] lb) (eg : ∀ args w, (callFunc gf args).run P w = .ok (.enter gf args) w)
    {t : Ty} {blks : List t.T} {w0 : World} (hseq : SeqBlk P (n - 1) gf lb t blks w0) (hb0 : Below w0.heap.size w0 w)
    (I : Nat → World → Prop) (hI : ∀ k A C, I k A → Below w.heap.size A C → I k C) (h0 : I 0 w) (a₁ : Value → Act)
    (hassign : ∀ (l : Nat) (x : Value) (W : World) (K : Act → World → Prop), K (a₁ x) W → assign.wpIn (Fence.wide.inRound l) (n - 1 - 1) P (Exit.then K (fun _ _ _ => False)) { tmps := ((#[p] : Array Tmp).zip #[x]).foldl (fun t (p, v) => t.setIfInBounds p v) a.tmps, defers := [] } W)
    (hbody : ∀ (l k : Nat) (x : Value) (y : t.T) (W : World), I k W → blks[k]? = some y → w.heap.size + 2 ≤ W.heap.size → RepD W (fun g => g < w.heap.size + 2) t y x →
      body.wpIn (Fence.wide.inRound l) (n - 1 - 1) P (fun e _ W' => e = .normal ∧ KeptFrom w.heap.size W W' ∧ I (k + 1) W') (a₁ x) W)
    (hdone : ∀ W : World, I blks.length W → W.heap[w.heap.size]? = some (.deferred (some [])) → Q .normal { a with defers := { target := .collected w.heap.size, args := #[] } :: a.defers } W) :
    (Code.rangeFunc g #[p] assign body).wp P Q a w := by
  refine (wpIn_wide (n := n)).1 (wpIn_rangeFunc ?_)
  intro fn hfn
  obtain ⟨rec, hrec⟩ : ∃ rec : LoopState → Option Code → Loop, rec = fun st pe => { state := st, pending := pe, fn, tmps := a.tmps, params := #[p], assign, body, defers := w.heap.size } := ⟨_, rfl⟩
  obtain ⟨W1, hW1⟩ : ∃ W1, (w.alloc (.deferred (some []))).alloc (.loop (rec .ready none)) = W1 := ⟨_, rfl⟩
  have hs1 : W1.heap.size = w.heap.size + 2 := by rw [← hW1]; simp
  have hL1 : W1.heap[w.heap.size + 1]? = some (.loop (rec .ready none)) := by
    rw [← hW1]; have := World.alloc_heap_new (w.alloc (.deferred (some []))) (.loop (rec .ready none)); rwa [World.size_alloc] at this
  have hK1 : W1.heap[w.heap.size]? = some (.deferred (some [])) := by
    rw [← hW1]; exact (Below.heap_alloc _ _ _ (by simp)).trans (World.alloc_heap_new w _)
  have hb1' : Below w.heap.size w W1 := by rw [← hW1]; exact ((Below.refl _ w).alloc (Nat.le_refl _) _).alloc (by simp) _
  have hI1 : I 0 W1 := hI 0 _ _ h0 hb1'
  have hb1 : Below w0.heap.size w0 W1 := hb0.trans (hb1'.mono hb0.size)
  refine ⟨w.heap.size + 1, [{ target := .collected w.heap.size, args := #[] }], W1, { target := .fn (.func gf) lb, args := #[.func (.yield (w.heap.size + 1)) #[] #[]] }, W1, gf,
    #[.func (.yield (w.heap.size + 1)) #[] #[]] ++ lb, W1, ?_, ?_, ?_, ?_, (fun h => by cases h), ?_⟩
  · rw [← hW1, hrec]; exact run_enterLoop_outer _ _ _ _ _
  · simp only [resolve, hg]
    simp [go_sem]
  · intro f' hf'; trivial
  · simp [invoke, go_sem, eg]
  · refine (hseq (w.heap.size + 1) (fun k W => I k W ∧ W.heap[w.heap.size + 1]? = some (.loop (rec .ready none)) ∧ W.heap[w.heap.size]? = some (.deferred (some []))) W1 hb1
      (fun k A C hs hb => ⟨hI k A C hs.1 (hb.mono (by omega)), (hb.block _ (by omega)).trans hs.2.1, (hb.block _ (by omega)).trans hs.2.2⟩) ?_ ⟨hI1, hL1, hK1⟩).mono ?_
    · rintro k x y W ⟨hi, hl, hk⟩ hy1 hsz hx
      have hlt : w.heap.size + 1 < W.heap.size := (Array.getElem?_eq_some_iff.1 hl).1
      have hy := run_yield (P := P) (args := #[x]) hl (by rw [hrec]; rfl)
      rw [hrec] at hy
      refine ⟨fn, _, assign, body, hy, roundIn_of_wpIn hfn ?_⟩
      have hl2 : (W.putObj (w.heap.size + 1) (.loop { rec .ready none with state := .busy })).heap[w.heap.size + 1]? = some (.loop { rec .ready none with state := .busy }) := World.putObj_heap_same hlt
      have hk2 : (W.putObj (w.heap.size + 1) (.loop { rec .ready none with state := .busy })).heap[w.heap.size]? = some (.deferred (some [])) := (World.putObj_heap_other (by omega)).trans hk
      have hw2 : KeptFrom W1.heap.size W (W.putObj (w.heap.size + 1) (.loop { rec .ready none with state := .busy })) := keptFrom_putObj hl (by omega)
      have hx2 : RepD (W.putObj (w.heap.size + 1) (.loop { rec .ready none with state := .busy })) (fun g => g < w.heap.size + 2) t y x :=
        hx.keep ⟨hw2.size, fun g hg hn => hw2.block g (by omega) hg, fun g _ hg => by show g < W1.heap.size; omega⟩
      refine hassign _ x W _ ?_
      refine ⟨_, run_beginRound hl (by rw [hrec]), ?_⟩
      refine wpIn_mono (hbody _ k x y _ (hI k _ _ hi (below_putObj hl (by omega))) hy1 (Nat.le_trans (by omega) hw2.size) hx2) ?_
      rintro e a3 W3 ⟨rfl, hk3, hi3⟩
      have hl3 : W3.heap[w.heap.size + 1]? = some (.loop { rec .ready none with state := .busy }) := (hk3.block _ (by omega) (Array.getElem?_eq_some_iff.1 hl2).1).trans hl2
      have hd3 : W3.heap[w.heap.size]? = some (.deferred (some [])) := (hk3.block _ (by omega) (Array.getElem?_eq_some_iff.1 hk2).1).trans hk2
      have hr := run_endRound (P := P) none hl3
      refine ⟨_, _, hr, rfl, ⟨hI _ _ _ hi3 (below_putObj hl3 (by omega)), ?_, (World.putObj_heap_other (by omega)).trans hd3⟩, (hw2.trans ⟨hk3.os, hk3.tape, hk3.output, hk3.size, fun g hg hgl => hk3.block g (by omega) hgl⟩).trans (keptFrom_putObj hl3 (by omega))⟩
      rw [World.putObj_heap_same (Array.getElem?_eq_some_iff.1 hl3).1, hrec]
      rfl
    · rintro e W2 ⟨⟨v, rfl⟩, hi, hl, hk⟩
      exact ⟨none, _, by have := run_endLoop (P := P) hl (by rw [hrec]; simp); rw [hrec] at this; exact this, hdone _ (hI _ _ _ hi (below_putObj hl (by omega))) ((World.putObj_heap_other (by omega)).trans hk)⟩
/-- from every activation and world that stand for σ the code comes to what R says -/
def RWP (P : Program) (w0 : World) (X : Ownr) (n : Nat) (c : Code) (σ : AS) (R : Exit → Act → World → Prop) : Prop := ∀ β a w, Sim w0 X n σ β a w → c.wpIn (wideR X.ρ) 0 P R a w
theorem RWP.seq {P : Program} {w0 : World} {X : Ownr} {n : Nat} {x y : Code} {σ : AS} {R : Exit → Act → World → Prop} (h : AWP P w0 X n x σ (thenQ (fun σ' => RWP P w0 X n y σ' R) (fun _ _ => False))) : RWP P w0 X n (.seq x y) σ R :=
  fun β a w hs => wpIn_seq (Go.wpIn_mono (h β a w hs) fun e a' w' ⟨σ', β', h1, h2⟩ => by
    cases e with
    | normal => exact h2 β' a' w' h1
    | _ => exact h2.elim)
theorem RWP.of {P : Program} {w0 : World} {X : Ownr} {n : Nat} {c : Code} {σ : AS} {Q : Exit → AS → Prop} {R : Exit → Act → World → Prop} (h : AWP P w0 X n c σ Q) (hR : ∀ e σ' β' a' w', Sim w0 X n σ' β' a' w' → Q e σ' → R e a' w') : RWP P w0 X n c σ R :=
  fun β a w hs => Go.wpIn_mono (h β a w hs) fun e a' w' ⟨σ', β', h1, h2⟩ => hR e σ' β' a' w' h1 h2
/-! ### a state out of nothing, a state begun anew -/
theorem OSet.nil {X : Ownr} {β : Nat → Value} : OSet X [] β = X.X := by
  funext g
  apply propext
  constructor
  · rintro (h | ⟨i, o, h, _⟩)
    · exact h
    · cases h
  · exact fun h => .inl h
theorem rep_cons {w : World} {O : Nat → Prop} {β : Nat → Value} {F : Frame} {ts : Array Value} {s : Nat} {v : V} (h : RepV w O β v.t v.x (ts.getD s undef)) (hF : ∀ t, RepV w O β (Frame.get F t).t (Frame.get F t).x (ts.getD t undef)) :
    ∀ t, RepV w O β (Frame.get ((s, v) :: F) t).t (Frame.get ((s, v) :: F) t).x (ts.getD t undef) := by
  intro t
  rw [Frame.get_cons]
  by_cases hs : s = t
  · rw [if_pos hs, ← hs]; exact h
  · rw [if_neg hs]; exact hF t
theorem getD_app {a b : Array Value} {i : Nat} (h : i < a.size) : (a ++ b).getD i undef = a.getD i undef := by
  simp [Array.getD_eq_getD_getElem?, Array.getElem?_append, h]
theorem rep_nil {w : World} {O : Nat → Prop} {β : Nat → Value} {ts : Array Value} : ∀ t, RepV w O β (Frame.get ([] : Frame) t).t (Frame.get ([] : Frame) t).x (ts.getD t undef) := fun _ => trivial
section
variable {w0 w w' : World} {X : Ownr} {n : Nat} {σ : AS} {F F' : Frame} {β : Nat → Value} {a : Act}
theorem Sim.fresh (hK : X.K = 0) (hsz : a.tmps.size = n) (hdf : a.defers = X.D) (hfr : ∀ s, RepV w X.X β (Frame.get F s).t (Frame.get F s).x (a.tmps.getD s undef)) (hb : bndB 0 F = true) : Sim w X n ⟨F, [], 0⟩ β a w :=
  ⟨hsz, hdf, Kept.refl _ _, fun s => by rw [OSet.nil]; exact hfr s, fun i o h => (by cases h), fun i o g h => (by cases h), fun i j oi oj h => (by cases h), fun i o h => (by cases h), ⟨by rw [hK]; exact Nat.le_refl _, fun i h => by rw [hK] at h; cases h⟩, fun s => bndB_get hb s, fun i o h => (by cases h)⟩
theorem Sim.rebase (h : Sim w0 X n σ β a w) (hE : σ.E = []) (hK : X.K = 0) (hF : Sub σ.F F') (hb : bndB 0 F' = true) : Sim w X n ⟨F', [], 0⟩ β a w :=
  Sim.fresh hK h.sz h.df (fun s => by
    have h1 := (h.weaken hF.get).fr s
    rw [show ({ σ with F := F' } : AS).E = [] from hE, OSet.nil] at h1
    exact h1) hb
/-- a round has passed: what lay from B on lies -/
theorem Sim.round {B : Nat} (h : Sim w0 X n σ β a w) (hE : σ.E = []) (hXB : ∀ g, g < B → X.X g) (hK : X.K = 0) (hk : KeptFrom B w w') (hF : Sub σ.F F') (hb : bndB 0 F' = true) : Sim w' X n ⟨F', [], 0⟩ β a w' :=
  Sim.fresh hK h.sz h.df (fun s => by
    have h1 := (h.weaken hF.get).fr s
    rw [show ({ σ with F := F' } : AS).E = [] from hE, OSet.nil] at h1
    refine RepV.keep ⟨hk.size, fun g hg hn => hk.block g ?_ hg, fun g _ h => h⟩ _ _ _ h1
    rcases Nat.lt_or_ge g B with h2 | h2
    · exact (hn (hXB g h2)).elim
    · exact h2) hb
theorem OwnRep.flat {O O' : Nat → Prop} {B : Nat} {bv : Value} {te : TypeId} {t : Ty} {xs : List t.T} (ht : t.flat = true) (h : OwnRep w O β B bv (.buf te t xs)) : OwnRep w O' β B bv (.buf te t xs) := by
  obtain ⟨cs, h1, h2, h3⟩ := h
  exact ⟨cs, h1.mono fun x _ c hc => repC_flat t ht x c hc, h2, h3⟩
end
/-- begun anew behind a loop: what the call owns is known by its blocks -/
theorem Sim.anchor {w0 w : World} {X : Ownr} {n : Nat} {σ : AS} {β : Nat → Value} {a : Act} (h : Sim w0 X n σ β a w) (fix : Nat → Nat) (hfix : ∀ i, i < σ.nx → blockOf (β i) = some (fix i) ∧ ∀ o, Owns.get σ.E i = some o → o.isBuf = false) (D : List Deferred) :
    Sim w { X with K := σ.nx, fix := fix, D := D } n σ β { a with defers := D } w :=
  ⟨h.sz, rfl, Kept.refl _ _, h.fr, h.own, fun i o g hi hg => .inr (.inl ⟨i, h.lt i o hi, by
    have h1 := (hfix i (h.lt i o hi)).1
    rw [hg] at h1
    exact (Option.some.inj h1).symm⟩), h.inj, h.lt, ⟨Nat.le_refl _, hfix⟩, h.hb, h.hE⟩
section
variable {P : Program} {ρ : Option Nat} {n : Nat} {ops : Array Oper} {a : Act} {w : World}
theorem wpListIn_move {o : Oper} {rest : List Oper} {x : Operand} (ho : o.op = .move x ∨ o.op = .assign x) (hg : o.guard = none) {R : Exit → Act → World → Prop} (h : wpListIn (wideR ρ) n P ops R rest (a.put o.dst (a.eval x)) w) : wpListIn (wideR ρ) n P ops R (o :: rest) a w := by
  refine wpListIn_plain hg fun K hK => wpIn_of_wp (fun c e => ?_) (wp_run (u := a.eval x) (w' := w) ?_ (hK _ _ h))
  · rcases ho with ho | ho <;> (rw [e] at ho; cases ho)
  · unfold execOp
    rcases ho with ho | ho <;> simp [ho]
end
theorem YieldAt.any {P : Program} {m m' l : Nat} {args : Array Value} {W : World} {R : Ending → World → Prop} (h : YieldAt Fence.wide m P l args W R) : YieldAt Fence.wide m' P l args W R := by
  obtain ⟨fn, tmps, assign, body, h1, h2⟩ := h
  exact ⟨fn, tmps, assign, body, h1, h2.1, fun c cs _ => h2.2 c cs (room_wide _)⟩
theorem RoundIn.anyN {P : Program} {m m' l : Nat} {f : FuncId} {tmps : Array Value} {assign body : Code} {W : World} {R : Ending → World → Prop} (h : RoundIn Fence.wide m P l f tmps assign body W R) : RoundIn Fence.wide m' P l f tmps assign body W R :=
  ⟨h.1, fun c cs _ => h.2 c cs (room_wide _)⟩
/-! ### a block that is no cells turns -/
structure KeepsC (w w' : World) : Prop where
  size : w.heap.size ≤ w'.heap.size
  block : ∀ (g : Nat) cs ty fz, w.heap[g]? = some (.cells cs ty fz) → w'.heap[g]? = some (.cells cs ty fz)
  maps : ∀ (g : Nat) ms ck, w.heap[g]? = some (.map ms ck) → w'.heap[g]? = some (.map ms ck)
section
variable {w w' : World} {O : Nat → Prop} {β : Nat → Value}
theorem CellsAt.keepC {g off : Nat} {vs : List Value} (h : CellsAt w g off vs) (hk : KeepsC w w') : CellsAt w' g off vs := fun j u hu => by
  have h1 := h j u hu
  have hb : ∃ cs ty fz, w.heap[g]? = some (.cells cs ty fz) := by
    unfold World.cell? at h1
    cases ho : w.heap[g]? with
    | none => simp [ho] at h1
    | some o => cases o <;> first | exact ⟨_, _, _, rfl⟩ | (simp [ho] at h1)
  obtain ⟨cs, ty, fz, hb⟩ := hb
  exact (World.cell?_of_block (w := w) ((hk.block g cs ty fz hb).trans hb.symm)).trans h1
theorem RepS.keepC {α : Type} {R R' : α → List Value → Prop} {xs : List α} {v : Value} (h : RepS w O R xs v) (hk : KeepsC w w') (hr : ∀ x c, R x c → R' x c) : RepS w' O R' xs v := by
  rcases h with h | ⟨g, off, c, vs, h1, h2, h3, h4, h5, h6, h7, h8⟩
  · exact .inl h
  · exact .inr ⟨g, off, c, vs, h1, h2, h3, h4, Nat.lt_of_lt_of_le h5 hk.size, h6, h7.mono fun x _ c => hr x c, h8.keepC hk⟩
theorem RepC.keepC (hk : KeepsC w w') : ∀ (t : Ty) (x : t.T) (cs : List Value), RepC w O t x cs → RepC w' O t x cs := by
  intro t
  induction t with
  | pair a b iha ihb => rintro x cs ⟨c1, c2, h, h1, h2⟩; exact ⟨c1, c2, h, iha _ _ h1, ihb _ _ h2⟩
  | arr n t ih => rintro x cs ⟨h1, h2⟩; exact ⟨h1, h2.mono fun x _ c => ih x c⟩
  | slice t ih => rintro x cs ⟨v, h, h2⟩; exact ⟨v, h, h2.keepC hk ih⟩
  | _ => intro x cs h; exact h
theorem RepD.keepC (hk : KeepsC w w') {t : Ty} {x : t.T} {v : Value} (h : RepD w O t x v) : RepD w' O t x v := by
  unfold RepD at *
  split at h
  · rename_i ht
    obtain ⟨cs, h1, h2⟩ := h
    rw [if_pos ht]
    exact ⟨cs, h1, RepC.keepC hk _ _ _ h2⟩
  · rename_i ht
    rw [if_neg ht]
    exact RepC.keepC hk _ _ _ h
theorem RepTup.keepC (hk : KeepsC w w') : ∀ (t : Ty) (x : t.T) (vs : List Value), RepTup w O t x vs → RepTup w' O t x vs := by
  intro t
  induction t with
  | tup a b iha ihb => rintro x vs ⟨v, r, h, h1, h2⟩; exact ⟨v, r, h, h1.keepC hk, ihb _ _ h2⟩
  | unit => intro x vs h; exact h
  | _ => intro x vs h; exact absurd h (by simp [RepTup])
theorem RepP.keepC (hk : KeepsC w w') {t : Ty} {x : t.T} {v : Value} (h : RepP w O t x v) : RepP w' O t x v := by
  cases t <;> first | exact h.elim | skip
  obtain ⟨g, off, cs, h1, h2, h3, h4, h5⟩ := h
  exact ⟨g, off, cs, h1, Nat.lt_of_lt_of_le h2 hk.size, h3, RepC.keepC hk _ _ _ h4, h5.keepC hk⟩
theorem RepCap.keepC (hk : KeepsC w w') : ∀ (t : Ty) (x : t.T) (vs : List Value), RepCap w O t x vs → RepCap w' O t x vs := by
  intro t
  induction t with
  | tup a b iha ihb => rintro x vs ⟨v, r, h, h1, h2⟩; exact ⟨v, r, h, h1.keepC hk, ihb _ _ h2⟩
  | unit => intro x vs h; exact h
  | _ => intro x vs h; exact absurd h (by simp [RepCap])
theorem RepV.keepC (hk : KeepsC w w') : ∀ (t : Ty) (x : t.T) (v : Value), RepV w O β t x v → RepV w' O β t x v := by
  intro t
  induction t with
  | junk => intro x v h; exact h
  | lit => intro x v h; exact h
  | vptr t _ =>
    rintro x v ⟨g, off, cs, h1, h2, h3, h4, h5⟩
    exact ⟨g, off, cs, h1, Nat.lt_of_lt_of_le h2 hk.size, h3, RepC.keepC hk _ _ _ h4, h5.keepC hk⟩
  | cptr g off t _ =>
    rintro x v ⟨cs, h1, h2, h3, h4, h5⟩
    exact ⟨cs, h1, Nat.lt_of_lt_of_le h2 hk.size, h3, RepC.keepC hk _ _ _ h4, h5.keepC hk⟩
  | optr t _ => intro x v h; exact h
  | obuf t _ => intro x v h; exact h
  | tup a b _ _ => rintro x v ⟨vs, h1, h2⟩; exact ⟨vs, h1, RepTup.keepC hk _ _ _ h2⟩
  | cond t ih => intro x v h; exact ⟨fun hc => ih _ _ (h.1 hc), h.2⟩
  | clo f t _ => rintro x v ⟨vs, h1, h2⟩; exact ⟨vs, h1, RepCap.keepC hk _ _ _ h2⟩
  | mapL => rintro x v ⟨r, ms, ck, h1, h2, h3, h4, h5⟩; exact ⟨r, ms, ck, h1, Nat.lt_of_lt_of_le h2 hk.size, h3, hk.maps r ms ck h4, h5⟩
  | hptr => intro x v h; exact h
  | hcons a b iha ihb => rintro x v ⟨u, s, h1, h2, h3, h4⟩; exact ⟨u, s, h1, h2, iha _ _ h3, ihb _ _ h4⟩
  | _ => intro x v h; exact RepD.keepC hk h
theorem RepH.keepC (hk : KeepsC w w') : ∀ {vs : List V} {cs : List Value}, RepH w O β vs cs → RepH w' O β vs cs
  | [], _, h => h
  | v :: r, _, ⟨u, s, h1, h2, h3, h4⟩ => ⟨u, s, h1, h2, RepV.keepC hk _ _ _ h3, RepH.keepC hk h4⟩
theorem OwnRep.keepC {B : Nat} {bv : Value} {o : OObj} (h : OwnRep w O β B bv o) (hk : KeepsC w w') : OwnRep w' O β B bv o := by
  cases o with
  | box t x =>
    obtain ⟨g', cs, ty, rfl, h1, h2, h3⟩ := h
    exact ⟨g', cs, ty, rfl, h1, hk.block _ _ _ _ h2, RepC.keepC hk _ _ _ h3⟩
  | buf te t xs =>
    obtain ⟨cs, h1, h2, h3⟩ := h
    refine ⟨cs, h1.mono fun x _ c => RepC.keepC hk _ _ _, ⟨h2.1, ?_⟩, h3⟩
    rcases h2.2 with h4 | ⟨g', cap, cur, rfl, h4, h5, h6⟩
    · exact .inl h4
    · exact .inr ⟨g', cap, cur, rfl, h4, hk.block _ _ _ _ h5, h6⟩
  | hbox vs =>
    obtain ⟨g', cs, ty, rfl, h1, h2, h3⟩ := h
    exact ⟨g', cs, ty, rfl, h1, hk.block _ _ _ _ h2, h3.keepC hk⟩
theorem keepsC_putObj {D : Nat} {x : Option (List Deferred)} {o : Obj} (hD : w.heap[D]? = some (.deferred x)) : KeepsC w (w.putObj D o) := by
  have hg := grownBy_putObj' w D o
  refine ⟨hg.size, fun g cs ty fz h => (hg.block g (Array.getElem?_eq_some_iff.1 h).1 fun e => ?_).trans h, fun g ms ck h => (hg.block g (Array.getElem?_eq_some_iff.1 h).1 fun e => ?_).trans h⟩
  · cases e
    rw [hD] at h
    cases h
  · cases e
    rw [hD] at h
    cases h
end
theorem Seen.keepC {w0 w w' : World} {X : Ownr} {σ : AS} {β : Nat → Value} {a : Act} (h : Seen w0 X σ β a w) (hk : KeepsC w w') : Seen w0 X σ β a w' :=
  ⟨fun s => RepV.keepC hk _ _ _ (h.fr s), fun i o hi => (h.own i o hi).keepC hk, h.new⟩
/-- a function that ranged over a function leaves: the block of the rounds' deferred calls is shut, the results are read -/
theorem leaves_mark {P : Program} {K : Kn} {w0 w : World} {X : Ownr} {n D : Nat} {σ : AS} {β : Nat → Value} {a : Act} {m : Nat} (hK : KnOk P X.G K) (hX : X.Ok w0) (h : Sim w0 X n σ β a w) (hXD : X.D = [{ target := .collected D, args := #[] }]) (hD : w.heap[D]? = some (.deferred (some []))) {fn : Func} {own : Option TypeId} {t : Ty} {x : t.T}
    (hd : Done K.T fn.results.toList σ own t x) (hR : own = none ∨ ∀ g, ¬ X.R g) {R : Ending → World → Prop} (hQ : ∀ v, (t = .unit ∨ ResRel (w.putObj D (.deferred none)) X.X w0.heap.size own t x v) → R (.returned v) (w.putObj D (.deferred none))) :
    LeavesInM Fence.wide m P fn a.tmps R a.defers .returning w := by
  rw [h.df, hXD]
  refine ⟨by simp, .inl ⟨_, _, rfl, run_takeDeferred hD, ?_⟩⟩
  obtain ⟨v, h1, h2⟩ := done_res hK hX (h.seen.keepC (keepsC_putObj hD)) hd hR
  exact ⟨v, h1, hQ v h2⟩
end Go.Proofs.YtbbeldmcdjjnbaaDoor
namespace Go.Proofs.YtbbeldmcdjjnbaaDoor
open Go Go.RowKit
set_option linter.unusedSimpArgs false
set_option linter.unusedVariables false

def thawP {r τ : Ty} (t : Ty) (x : t.T) : Path r τ → V
  | .here => match tyEq? r t with
    | some _ => ⟨.vptr t, x⟩
    | none => ⟨.junk, ()⟩
  | _ => ⟨.junk, ()⟩
/-- what a slot's value becomes when the i-th variable is given away -/
def thawB (i : Nat) (t : Ty) (x : t.T) (v : V) : V :=
  match v with
  | ⟨.optr _, ⟨j, _, p⟩⟩ => bif Nat.beq i j then thawP t x p else v
  | v => v.kill i
def Frame.thawB (i : Nat) (t : Ty) (x : t.T) : List (Nat × V) → List (Nat × V)
  | [] => []
  | (s, v) :: r => (s, Go.Proofs.YtbbeldmcdjjnbaaDoor.thawB i t x v) :: Frame.thawB i t x r
theorem Frame.get_thawB (i : Nat) (t : Ty) (x : t.T) (F : Frame) (s : Nat) : Frame.get (Frame.thawB i t x F) s = Go.Proofs.YtbbeldmcdjjnbaaDoor.thawB i t x (Frame.get F s) := by
  induction F with
  | nil => rfl
  | cons p F ih =>
    obtain ⟨d, v⟩ := p
    simp only [Frame.thawB, Frame.get_cons, ih]
    split <;> rfl
theorem kill_cases (i : Nat) (v : V) : v.kill i = v ∨ v.kill i = ⟨.junk, ()⟩ := by
  unfold V.kill
  cases uses i v.t v.x <;> simp
section
variable {P : Program} {K : Kn} {w0 : World} {X : Ownr} {n : Nat} {σ : AS} {β : Nat → Value} {a : Act} {w : World} {Q : Exit → AS → Prop}
theorem Sim.freezeB (h : Sim w0 X n σ β a w) (hX : X.Ok w0) {i : Nat} {t : Ty} {x : t.T} (hi : Owns.get σ.E i = some (.box t x)) :
    Sim w0 X n { F := Frame.thawB i t x σ.F, E := (i, none) :: σ.E, nx := σ.nx } β a w := by
  have h' := h.forget i
  obtain ⟨g, cs, ty, hβ, _, hg, hr⟩ := h.own i _ hi
  have hsub : ∀ g, OSet X ((i, none) :: σ.E) β g → OSet X σ.E β g := fun g hg => by
    rcases hg with hg | ⟨j, oj, h1, h2⟩
    · exact .inl hg
    · rw [Owns.get_cons] at h1
      by_cases hs : i = j
      · rw [if_pos hs] at h1; cases h1
      · rw [if_neg hs] at h1; exact .inr ⟨j, oj, h1, h2⟩
  have hng : ¬ OSet X ((i, none) :: σ.E) β g := fun hg' => by
    rcases hg' with hg' | ⟨j, oj, h1, h2⟩
    · have h3 := hX.1 g hg'
      rcases h.new i _ g hi (by rw [hβ]; rfl) with h4 | h4
      · omega
      · exact h3.2 h4
    · rw [Owns.get_cons] at h1
      by_cases hs : i = j
      · rw [if_pos hs] at h1; cases h1
      · rw [if_neg hs] at h1
        exact h.inj i j _ _ hi h1 hs g (by rw [hβ]; rfl) h2
  have hk : Keeps w w (OSet X σ.E β) (OSet X ((i, none) :: σ.E) β) := ⟨Nat.le_refl _, fun _ _ _ => rfl, fun g _ h => hsub g h⟩
  have hv : RepV w (OSet X ((i, none) :: σ.E) β) β (.vptr t) x (.pointer (some ⟨g, 0, none⟩)) :=
    ⟨g, 0, cs, rfl, (Array.getElem?_eq_some_iff.1 hg).1, hng, RepC.keep hk _ _ _ hr, fun j u hu => by
      unfold World.cell?
      rw [hg]
      simpa using hu⟩
  refine ⟨h'.sz, h'.df, h'.bel, fun s => ?_, h'.own, h'.new, h'.inj, h'.lt, h'.fix, fun s => ?_, h'.hE⟩
  · have h1 := h'.fr s
    show RepV _ _ _ (Frame.get (Frame.thawB i t x σ.F) s).t _ _
    rw [Frame.get_thawB]
    revert h1
    show RepV _ _ _ (Frame.get σ.F s).t _ _ → _
    generalize Frame.get σ.F s = v
    intro h1
    by_cases hv' : thawB i t x v = v.kill i
    · rw [hv']
      rcases kill_cases i v with e | e
      · rw [e]; exact h1
      · rw [e]; trivial
    · obtain ⟨vt, vx⟩ := v
      cases vt <;> first | exact absurd rfl hv' | skip
      rename_i τ
      obtain ⟨j, r, p⟩ := vx
      simp only [thawB]
      cases e : Nat.beq i j with
      | false => exact h1
      | true =>
        have e' : i = j := Nat.eq_of_beq_eq_true e
        subst e'
        simp only [cond_true]
        obtain ⟨g', hb, hu⟩ := h1
        rw [hβ] at hb
        cases hb
        cases p with
        | here =>
          simp only [thawP]
          cases tyEq? τ t with
          | none => trivial
          | some q => rw [hu]; exact hv
        | _ => trivial
  · have h1 := h'.hb s
    show (Frame.get (Frame.thawB i t x σ.F) s).bound ≤ _
    rw [Frame.get_thawB]
    revert h1
    show (Frame.get σ.F s).bound ≤ _ → _
    generalize Frame.get σ.F s = v
    intro h1
    by_cases hv' : thawB i t x v = v.kill i
    · rw [hv']
      rcases kill_cases i v with e | e
      · rw [e]; exact h1
      · rw [e]; exact Nat.zero_le _
    · obtain ⟨vt, vx⟩ := v
      cases vt <;> first | exact absurd rfl hv' | skip
      rename_i τ
      obtain ⟨j, r, p⟩ := vx
      simp only [thawB]
      cases e : Nat.beq i j with
      | false => exact h1
      | true =>
        simp only [cond_true]
        cases p with
        | here =>
          simp only [thawP]
          cases tyEq? τ t with
          | none => exact Nat.zero_le _
          | some q => exact Nat.zero_le _
        | _ => exact Nat.zero_le _
/-- the variable that a slot points to is given away -/
def frzB (σ : AS) (s : Nat) : AS :=
  match Frame.get σ.F s with
  | ⟨.optr _, ⟨i, _, _⟩⟩ => match Owns.get σ.E i with
    | some (.box t x) => { F := Frame.thawB i t x σ.F, E := (i, none) :: σ.E, nx := σ.nx }
    | _ => σ
  | _ => σ
theorem Sim.frzB (h : Sim w0 X n σ β a w) (hX : X.Ok w0) (s : Nat) : Sim w0 X n (frzB σ s) β a w := by
  unfold Go.Proofs.YtbbeldmcdjjnbaaDoor.frzB
  split
  · split
    · rename_i he
      exact h.freezeB hX he
    · exact h
  · exact h
theorem AWP.frzB (hX : X.Ok w0) (s : Nat) {c : Code} (h : AWP P w0 X n c (Go.Proofs.YtbbeldmcdjjnbaaDoor.frzB σ s) Q) : AWP P w0 X n c σ Q :=
  fun β a w hs => h β a w (hs.frzB hX s)
/-- the orders of a region of two cuts and a copy of the one into the other -/
def copyB (ops : Array Oper) : Bool :=
  Region.noSelect ops && Region.free .any ops #[false, false, false] 0 && (Region.ready .any ops #[false, false, false]).contains 0 &&
    Region.free .any ops #[true, false, false] 1 && (Region.ready .any ops #[true, false, false]).contains 1 && (Region.ready .any ops #[true, true, false] == [2]) && (Region.ready .any ops #[true, true, true] == [])
theorem sliceArr_run {xt te : TypeId} {k s : Nat} (hu : P.underlying xt = some (.array k te)) (hs : ∀ w, (Go.sizeOf te).run P w = .ok s w) (g off : Nat) (w : World) :
    (Instr.sliceAt xt (.pointer (some ⟨g, off, none⟩)) none none none).run P w = .ok (.slice (some ⟨g, off, none⟩) k k) w := by
  unfold Instr.sliceAt
  simp only [Sem.run_bind, run_underlying hu, Result.andThen_ok, hs, Sem.run_pure, Instr.sureAddr, Instr.sliceBounds]
  split
  · simp
  · simp [Addr.add]
theorem AWP.copyArr (hm : P.follows .mixedOrders = true) (hX : X.Ok w0) (hK : KnOk P X.G K) {id : Nat} {o0 o1 o2 : Oper} {sd ss d0 d1 d2 : Nat} {xd xs sl : TypeId} {nd ns i : Nat} {x y : List UInt8}
    (h0 : o0.op = .slice xd (.tmp sd) none none none) (h0d : o0.dst = some d0) (h0g : o0.guard = none)
    (h1 : o1.op = .slice xs (.tmp ss) none none none) (h1d : o1.dst = some d1) (h1g : o1.guard = none)
    (h2 : o2.op = .call ⟨.builtin .copy, #[.tmp d0, .tmp d1], #[sl, sl]⟩) (h2d : o2.dst = some d2) (h2g : o2.guard = none)
    (hxd : tis K.T xd (.arr nd (.int .u8)) = true) (hxs : tis K.T xs (.arr ns (.int .u8)) = true) (hsl : tis K.T sl (.slice (.int .u8)) = true)
    (hsd : Frame.get σ.F sd = ⟨.optr (.arr nd (.int .u8)), ⟨i, .arr nd (.int .u8), .here⟩⟩) (hi : Owns.get σ.E i = some (.box (.arr nd (.int .u8)) x)) (hss : Frame.get σ.F ss = ⟨.vptr (.arr ns (.int .u8)), y⟩)
    (hle : ns ≤ nd) (hn0 : d0 < n) (hn1 : d1 < n) (hn2 : d2 < n) (hne : d0 ≠ d1) (hne2 : d0 ≠ ss) (hB : copyB #[o0, o1, o2] = true)
    (hq : Q .normal ⟨(d2, ⟨.junk, ()⟩) :: (d1, ⟨.junk, ()⟩) :: (d0, ⟨.junk, ()⟩) :: σ.F, (i, some (.box (.arr nd (.int .u8)) ((y ++ List.drop ns x : List UInt8)))) :: σ.E, σ.nx⟩) : AWP P w0 X n (.region id #[o0, o1, o2] true) σ Q := by
  intro β a w h
  have hfd := h.fr sd
  rw [hsd] at hfd
  have hfs := h.fr ss
  rw [hss] at hfs
  obtain ⟨g, cs, ty, hβ, _, hg, hr⟩ := h.own i _ hi
  obtain ⟨g', hb, hud⟩ := hfd
  have hb : blockOf (β i) = some g' := hb
  rw [hβ] at hb
  cases hb
  have hud : a.tmps.getD sd undef = .pointer (some ⟨g, 0, none⟩) := hud
  obtain ⟨g2, off2, ds, hus, hg2, hn2', hr2, hc2⟩ := hfs
  have hus : a.tmps.getD ss undef = .pointer (some ⟨g2, off2, none⟩) := hus
  have hr2 : List.length y = ns ∧ RepL (RepC w (OSet X σ.E β) (.int .u8)) y ds := hr2
  have hr : List.length x = nd ∧ RepL (RepC w (OSet X σ.E β) (.int .u8)) x cs := hr
  have hds := repL_bytes hr2.2
  have hcs := repL_bytes hr.2
  obtain ⟨td, hud', _, htd⟩ := hK.t.is hxd
  obtain ⟨ts, hus', _, hts⟩ := hK.t.is hxs
  obtain ⟨te, hut, _, hte⟩ := hK.t.is hsl
  simp only [copyB, Bool.and_eq_true, beq_iff_eq] at hB
  obtain ⟨⟨⟨⟨⟨⟨q1, q2⟩, q3⟩, q4⟩, q5⟩, q6⟩, q7⟩ := hB
  have hsz := h.sz
  let v0 : Value := .slice (some ⟨g, 0, none⟩) nd nd
  let v1 : Value := .slice (some ⟨g2, off2, none⟩) ns ns
  have hw : ∀ (o : Oper) (b : Act), o.guard = none → Region.wanted o (yielded #[o0, o1, o2] b.tmps) = true := fun o b hg => by simp [Region.wanted, hg]
  have hy0 : Go.Yields P #[o0, o1, o2] o0 v0 a := .inl ⟨hw _ _ h0g, fun w => by
    unfold execOp
    simp only [h0]
    have := sliceArr_run (P := P) hud' (fun w => htd.sizeOf) g 0 w
    rw [← hud] at this
    exact run_v this⟩
  have hy1 : Go.Yields P #[o0, o1, o2] o1 v1 (a.put o0.dst v0) := .inl ⟨hw _ _ h1g, fun w => by
    unfold execOp
    simp only [h1]
    have := sliceArr_run (P := P) hus' (fun w => hts.sizeOf) g2 off2 w
    have e : (a.put o0.dst v0).eval (.tmp ss) = .pointer (some ⟨g2, off2, none⟩) := by
      show (a.put o0.dst v0).tmps.getD ss undef = _
      rw [h0d, Act.put_get (by rw [hsz]; exact hn0), if_neg hne2, hus]
    rw [← e] at this
    exact run_v this⟩
  let Φ : Exit → Act → World → Prop := fun e a' w' => e = .normal ∧ ∃ β', Sim w0 X n ⟨(d2, ⟨.junk, ()⟩) :: (d1, ⟨.junk, ()⟩) :: (d0, ⟨.junk, ()⟩) :: σ.F, (i, some (.box (.arr nd (.int .u8)) ((y ++ List.drop ns x : List UInt8)))) :: σ.E, σ.nx⟩ β' a' w'
  have hdf : noDefer (#[o0, o1, o2] : Array Oper).toList = true := by simp [noDefer, h0, h1, h2]
  suffices hany : wpAny P .any #[o0, o1, o2] Φ 3 #[false, false, false] a { w with drawn := w.drawn + 1 } from
    Go.wpIn_mono (wpIn_region_any hm (wpAnyIn_of_wpAny (R := Φ) not_lets hdf _ hany)) fun e a w ⟨he, β', h'⟩ => by subst he; exact ⟨_, β', h', hq⟩
  refine wpAny_take (i := 0) (oi := o0) (v := v0) rfl q1 q2 q3 (fun c a w h => by cases h.1) hy0 ?_
  refine wpAny_take (i := 1) (oi := o1) (v := v1) rfl q1 q4 q5 (fun c a w h => by cases h.1) hy1 ?_
  refine wpAny_all (rs := [2]) q6 (by simp) fun j hj => ?_
  rw [List.mem_singleton] at hj
  subst hj
  obtain ⟨b, hb⟩ : ∃ b, b = (a.put o0.dst v0).put o1.dst v1 := ⟨_, rfl⟩
  rw [← hb]
  have eb0 : b.eval (.tmp d0) = v0 := by
    show b.tmps.getD d0 undef = _
    rw [hb, h0d, h1d, Act.put_get (by rw [Act.put_size, hsz]; exact hn1), if_neg (Ne.symm hne), Act.put_get (by rw [hsz]; exact hn0), if_pos rfl]
  have eb1 : b.eval (.tmp d1) = v1 := by
    show b.tmps.getD d1 undef = _
    rw [hb, h0d, h1d, Act.put_get (by rw [Act.put_size, hsz]; exact hn1), if_pos rfl]
  have hlen : ds.length = Nat.min ns nd := by rw [hds, List.length_map, hr2.1]; exact (Nat.min_eq_left hle).symm
  have hclen : cs.length = nd := by rw [hcs, List.length_map, hr.1]
  have hrun := run_copy_row (P := P) w.drew sl sl o2.type te g 0 nd nd ⟨g2, off2, none⟩ ns ns cs.toArray ty ds hut (by rw [hte.cellSize]; rfl) hg hlen
    (fun j v hv => by rw [Addr.add_mid]; exact hc2 j v hv) (by simp only [List.size_toArray]; rw [hlen, hclen, Nat.zero_add]; exact Nat.min_le_right _ _) (fun v hv => by rw [hds] at hv; obtain ⟨u, _, rfl⟩ := List.mem_map.1 hv; simp [Value.oneCell'])
  have e2 : (#[o0, o1, o2] : Array Oper)[2]? = some o2 := rfl
  let W : World := w.drew
  have hres : (execOp b.eval o2).run P W = .ok (.value (goInt ds.length)) (W.setRow g (cs.toArray.toList.take 0 ++ (ds ++ cs.toArray.toList.drop (0 + ds.length))).toArray) := by
    simp only [execOp, h2, resolve, builtin, eb0, eb1, v0, v1]
    simp [invoke, builtin, eb0, eb1, v0, v1, hrun, Result.andThen, W]
  generalize hcells : (cs.toArray.toList.take 0 ++ (ds ++ cs.toArray.toList.drop (0 + ds.length))) = cells at hres
  have hcells' : cells = ds ++ cs.drop (ns * 1) := by rw [← hcells, hlen, show Nat.min ns nd = ns from Nat.min_eq_left hle]; simp
  have hW : Sim w0 X n σ β a W := ⟨h.sz, h.df, h.bel.then ((Below.refl _ _).drew), fun s => RepV.keep (.of_below ((Below.refl _ _).drew) fun _ _ h => h) _ _ _ (h.fr s), fun i o ho => (h.own i o ho).keep (.of_below ((Below.refl _ _).drew) fun _ _ h => h) fun _ _ => rfl, h.new, h.inj, h.lt, h.fix, h.hb, h.hE⟩
  have s0 := hW.put (Below.refl _ _) (v := ⟨.junk, ()⟩) (u := v0) trivial (Nat.zero_le _) hn0
  have s1 := s0.put (Below.refl _ _) (v := ⟨.junk, ()⟩) (u := v1) trivial (Nat.zero_le _) hn1
  have hgW : W.heap[g]? = some (.cells cs.toArray ty (0, 0)) := hg
  have s2 := s1.write (i := i) (w' := W.setRow g cells.toArray) (o' := .box (.arr nd (.int .u8)) ((y ++ List.drop ns x : List UInt8))) hi
    ⟨rfl, rfl, rfl, by simp [World.setRow], fun k _ hk => setRow_other W g k _ (fun e => hk (by rw [hβ, e]; rfl))⟩
    (fun _ => ⟨g, cells, ty, hβ, Nat.zero_le _, setRow_heap W g _ _ ty _ hgW, by
      refine ⟨?_, ?_⟩
      · show List.length (y ++ List.drop ns x) = nd
        rw [List.length_append, List.length_drop, hr2.1, hr.1]
        omega
      · rw [hcells']
        exact (RepL.append (hr2.2.mono fun _ _ _ h => h) ((hr.2.drop (fun x c => RepC.len _ x c) ns).mono fun _ _ _ h => h))⟩) rfl
  have s3 := s2.put (Below.refl _ _) (v := ⟨.junk, ()⟩) (u := goInt ds.length) trivial (Nat.zero_le _) hn2
  have hstep : o2.wp P b W (wpAny P .any #[o0, o1, o2] Φ 0 (((#[false, false, false].setIfInBounds 0 true).setIfInBounds 1 true).setIfInBounds 2 true)) Φ := by
    unfold Oper.wp
    rw [hres]
    show wpAny P .any #[o0, o1, o2] Φ 0 _ (b.put o2.dst (goInt ds.length)) (W.setRow g cells.toArray)
    refine ⟨q7, rfl, β, ?_⟩
    rw [hb, h0d, h1d, h2d]
    exact s3
  simp only [Go.wpOp, e2, hw o2 b h2g, if_true]
  exact .inl hstep
end
end Go.Proofs.YtbbeldmcdjjnbaaDoor
namespace Go.Proofs.YtbbeldmcdjjnbaaDoor
open Go Go.RowKit Go.WideShapes Go.ChangeShapes
set_option linter.unusedSimpArgs false
set_option linter.unusedVariables false

/-- lists' elements have cells -/
def Ty.good : Ty → Bool
  | .pair a b => a.good && b.good
  | .arr _ t => t.good
  | .slice t => t.good && Nat.blt 0 t.size
  | _ => true
theorem encI_decI {k : IntKind} {n : Int} (h : k.min ≤ n ∧ n ≤ k.max) : encI k (decI k n) = n := by
  simp only [IntKind.min, IntKind.max] at h
  cases k <;> simp [IntKind.signed, IntKind.bits] at h <;> simp only [encI, decI]
  · simp; omega
  · simp; omega
  · simp; omega
  · simp; omega
section
variable {P : Program} {w : World} {H : Type} {enc : TypeId × Value → H} {base : Nat} {sp : Nat → Bool} {held : Bool}
def NoO : Nat → Prop := fun _ => False
theorem repL_of {α : Type} {R : α → List Value → Prop} {s : Nat} : ∀ (n : Nat) (cs : List Value), cs.length = n * s → (∀ i, i < n → ∃ x, R x ((cs.drop (i * s)).take s)) → ∃ xs : List α, xs.length = n ∧ RepL R xs cs
  | 0, cs, hl, _ => ⟨[], rfl, List.eq_nil_of_length_eq_zero (by simpa using hl)⟩
  | n + 1, cs, hl, h => by
    obtain ⟨x, hx⟩ := h 0 (by omega)
    obtain ⟨xs, hxs, hr⟩ := repL_of (R := R) (s := s) n (cs.drop s) (by rw [List.length_drop, hl, Nat.add_mul]; omega) fun i hi => by
      obtain ⟨y, hy⟩ := h (i + 1) (by omega)
      refine ⟨y, ?_⟩
      rw [List.drop_drop, show s + i * s = (i + 1) * s by rw [Nat.add_mul]; omega]
      exact hy
    refine ⟨x :: xs, by simp [hxs], cs.take s, cs.drop s, by simp, ?_, hr⟩
    simpa using hx
theorem cells?_some {g off n : Nat} {spt : Option Nat} {cs : List Value} (h : w.cells? base ⟨g, off, spt⟩ n = some cs) : cs.length = n ∧ ∀ j, j < n → ∃ u, cs[j]? = some u ∧ w.cell? ((⟨g, off, spt⟩ : Addr).add j) = some u := by
  unfold World.cells? at h
  split at h
  · refine ⟨by simpa using Lib.mapM_length h, fun j hj => ?_⟩
    obtain ⟨b, h1, h2⟩ := Lib.mapM_at h j j (by simp [hj])
    exact ⟨b, h1, h2⟩
  · cases h
theorem repL_cells {α : Type} {R : α → List Value → Prop} {s g : Nat} : ∀ (n off : Nat), (∀ i, i < n → ∃ x c, List.length c = s ∧ R x c ∧ ∀ j, j < s → ∃ u, c[j]? = some u ∧ w.cell? ⟨g, off + i * s + j, none⟩ = some u) → ∃ (xs : List α) (vs : List Value), xs.length = n ∧ RepL R xs vs ∧ CellsAt w g off vs
  | 0, _, _ => ⟨[], [], rfl, rfl, fun j u hu => by simp at hu⟩
  | n + 1, off, h => by
    obtain ⟨x, c, hc, hx, hcell⟩ := h 0 (by omega)
    obtain ⟨xs, vs, h1, h2, h3⟩ := repL_cells (R := R) (s := s) (g := g) n (off + s) fun i hi => by
      obtain ⟨y, d, hd, hy, hdc⟩ := h (i + 1) (by omega)
      refine ⟨y, d, hd, hy, fun j hj => ?_⟩
      obtain ⟨u, hu1, hu2⟩ := hdc j hj
      refine ⟨u, hu1, ?_⟩
      rw [show off + s + i * s + j = off + (i + 1) * s + j by rw [Nat.add_mul]; omega]
      exact hu2
    refine ⟨x :: xs, c ++ vs, by simp [h1], ⟨c, vs, rfl, hx, h2⟩, fun j u hu => ?_⟩
    rw [List.getElem?_append] at hu
    split at hu
    · rename_i hj
      obtain ⟨u', hu1, hu2⟩ := hcell j (by omega)
      rw [hu1] at hu
      cases hu
      simpa using hu2
    · rename_i hj
      have := h3 (j - c.length) u hu
      rw [hc] at this hj
      rwa [show off + s + (j - s) = off + j by omega] at this
theorem cells_lay {τ : Ty} {t : TypeId} (h : Lay P τ (.inl t)) : P.cellsOf t = τ.size := by
  obtain ⟨i, z, h1, h2, _⟩ := h.info
  unfold Program.cellsOf
  rw [h1]
  exact h2
def TrodRep (P : Program) (w : World) (enc : TypeId × Value → H) (base : Nat) (sp : Nat → Bool) (held : Bool) (τ : Ty) : Prop :=
  ∀ (t : TypeId) (cs : List Value) (fuel : Nat) (d : DataW H × List MemPlace), Lay P τ (.inl t) → DataW.trod enc P w base sp held fuel t cs = some d → ∃ x : τ.T, RepC w NoO τ x cs
def TrodRepS (P : Program) (w : World) (enc : TypeId × Value → H) (base : Nat) (sp : Nat → Bool) (held : Bool) (τ : Ty) : Prop :=
  ∀ (fs : List Field) (off fuel : Nat) (cs : List Value) (ds : List (DataW H × List MemPlace)), Lay P τ (.inr (fs, off)) → fs.mapM (fun f => DataW.trod enc P w base sp held fuel f.type ((cs.drop f.offset).take (P.cellsOf f.type))) = some ds →
    ∃ x : τ.T, RepC w NoO τ x ((cs.drop off).take τ.size)
theorem trod_of_struct {τ : Ty} {t : TypeId} {fs : Array Field} (hu : P.underlying t = some (.struct fs)) (hl : Lay P τ (.inr (fs.toList, 0))) (hc : P.cellsOf t = τ.size) (h : TrodRepS P w enc base sp held τ) {cs : List Value} {fuel : Nat} {d : DataW H × List MemPlace}
    (hd : DataW.trod enc P w base sp held fuel t cs = some d) : ∃ x : τ.T, RepC w NoO τ x cs := by
  cases fuel with
  | zero => simp [DataW.trod] at hd
  | succ fuel =>
    simp only [DataW.trod, hu] at hd
    split at hd
    · rename_i hlen
      obtain ⟨ds, hm, _⟩ := Option.map_eq_some_iff.1 hd
      obtain ⟨x, hx⟩ := h fs.toList 0 fuel cs ds hl hm
      refine ⟨x, ?_⟩
      rw [List.drop_zero, List.take_of_length_le (by rw [hlen, hc]; exact Nat.le_refl _)] at hx
      exact hx
    · cases hd
theorem trod_rep : ∀ τ : Ty, τ.good = true → TrodRep P w enc base sp held τ ∧ TrodRepS P w enc base sp held τ := by
  intro τ
  induction τ with
  | bool =>
    refine fun _ => ⟨fun t cs fuel d hl h => ?_, fun fs off fuel cs ds hl => hl.elim⟩
    obtain ⟨b, rfl, _⟩ := DataW.trod_bool hl.1 h
    exact ⟨b, rfl⟩
  | int k =>
    refine fun _ => ⟨fun t cs fuel d hl h => ?_, fun fs off fuel cs ds hl => hl.elim⟩
    obtain ⟨z, rfl, _, hwf⟩ := DataW.trod_int hl.1 h
    simp only [Lit.wf, Bool.and_eq_true, decide_eq_true_eq] at hwf
    exact ⟨decI k z, show [Value.int k z] = [Value.int k (encI k (decI k z))] by rw [encI_decI hwf]⟩
  | str =>
    refine fun _ => ⟨fun t cs fuel d hl h => ?_, fun fs off fuel cs ds hl => hl.elim⟩
    obtain ⟨s, rfl, _, hs⟩ := DataW.trod_string hl.1 h
    obtain ⟨⟨l⟩⟩ := s
    exact ⟨l, rfl, by simpa [ByteArray.size] using hs⟩
  | unit =>
    have hS : TrodRepS P w enc base sp held .unit := fun fs off fuel cs ds hl h => ⟨(), by simp [RepC, Ty.size]⟩
    refine fun _ => ⟨fun t cs fuel d hl h => ?_, hS⟩
    obtain ⟨fs, hu, hi, hn⟩ := hl
    exact trod_of_struct hu (by rw [hn]; rfl) (cells_lay (τ := .unit) ⟨fs, hu, hi, hn⟩) hS h
  | pair a b iha ihb =>
    intro hg
    simp only [Ty.good, Bool.and_eq_true] at hg
    obtain ⟨ia, _⟩ := iha hg.1
    obtain ⟨_, ib⟩ := ihb hg.2
    have hS : TrodRepS P w enc base sp held (.pair a b) := fun fs off fuel cs ds hl h => by
      obtain ⟨f, r, hf, ho, la, lb⟩ := hl
      have hf : fs = f :: r := hf
      subst hf
      rw [List.mapM_cons] at h
      obtain ⟨y, hy, h⟩ := Option.bind_eq_some_iff.1 h
      obtain ⟨ys, hys, h⟩ := Option.bind_eq_some_iff.1 h
      obtain ⟨x1, hx1⟩ := ia _ _ _ _ la hy
      obtain ⟨x2, hx2⟩ := ib r _ fuel cs ys lb hys
      have ho : f.offset = off := ho
      rw [cells_lay la, ho] at hx1
      refine ⟨(x1, x2), _, _, ?_, hx1, hx2⟩
      show (cs.drop off).take (a.size + b.size) = (cs.drop off).take a.size ++ (cs.drop (off + a.size)).take b.size
      rw [List.take_add, List.drop_drop]
    refine ⟨fun t cs fuel d hl h => ?_, hS⟩
    obtain ⟨fs, hu, hi, f, r, hf, ho, la, lb⟩ := hl
    have hl' : Lay P (.pair a b) (.inr (fs.toList, 0)) := ⟨f, r, hf, ho, la, by simpa using lb⟩
    exact trod_of_struct hu hl' (cells_lay (τ := .pair a b) ⟨fs, hu, hi, f, r, hf, ho, la, lb⟩) hS h
  | arr n e ih =>
    intro hg
    obtain ⟨ie, _⟩ := ih hg
    refine ⟨fun t cs fuel d hl h => ?_, fun fs off fuel cs ds hl => hl.elim⟩
    obtain ⟨te, hu, hi, le⟩ := hl
    have hct : P.cellsOf t = n * e.size := cells_lay (τ := .arr n e) ⟨te, hu, hi, le⟩
    cases fuel with
    | zero => simp [DataW.trod] at h
    | succ fuel =>
      simp only [DataW.trod, hu] at h
      split at h
      · rename_i hlen
        obtain ⟨ds, hm, _⟩ := Option.map_eq_some_iff.1 h
        obtain ⟨xs, h1, h2⟩ := repL_of (R := RepC w NoO e) (s := e.size) n cs (by rw [hlen, hct]) fun i hi => by
          obtain ⟨y, _, hy⟩ := Lib.mapM_at hm i i (by simp [hi])
          rw [cells_lay le] at hy
          exact ie _ _ _ _ le hy
        exact ⟨xs, h1, h2⟩
      · cases h
  | slice e ih =>
    intro hg
    simp only [Ty.good, Bool.and_eq_true, Nat.blt_eq] at hg
    obtain ⟨ie, _⟩ := ih hg.1
    refine ⟨fun t cs fuel d hl h => ?_, fun fs off fuel cs ds hl => hl.elim⟩
    obtain ⟨te, hu, hi, le⟩ := hl
    rcases DataW.trod_slice hu h with ⟨rfl, _⟩ | ⟨⟨g, off, spt⟩, len, cap, elems, rest, n, rfl, rfl, _, hb, hlc, hcm, hel, hix, _, _⟩
    · exact ⟨[], .slice none 0 0, rfl, .inl ⟨rfl, none, 0, rfl, by simp [maxLen]⟩⟩
    · by_cases hlen : len = 0
      · subst hlen
        exact ⟨[], _, rfl, .inl ⟨rfl, _, cap, rfl, hcm⟩⟩
      · rw [cells_lay le] at hix
        have hsome : ∀ i, i < len → ∃ c, w.cells? base ((⟨g, off, spt⟩ : Addr).add (i * e.size)) e.size = some c ∧ ∃ x : e.T, RepC w NoO e x c := fun i hi => by
          have h1 := hix i hi
          have h2 : ∃ y, elems[i]? = some y := ⟨elems[i]'(by omega), by simp [hel, hi]⟩
          obtain ⟨y, hy⟩ := h2
          rw [hy] at h1
          obtain ⟨c, hc1, hc2⟩ := Option.bind_eq_some_iff.1 h1
          exact ⟨c, hc1, ie _ _ _ _ le hc2⟩
        have hspt : spt = none := by
          obtain ⟨c, hc1, _⟩ := hsome 0 (by omega)
          cases spt with
          | none => rfl
          | some q =>
            exfalso
            have e0 : ∀ k, k = 0 → (⟨g, off, some q⟩ : Addr).add k = ⟨g, off, some q⟩ := fun k hk => by unfold Addr.add; rw [if_pos hk]
            rw [e0 _ (Nat.zero_mul _)] at hc1
            obtain ⟨u, _, hu2⟩ := (cells?_some hc1).2 0 (by omega)
            rw [e0 _ rfl] at hu2
            unfold World.cell? at hu2
            split at hu2
            · simp at hu2
            · cases hu2
        subst hspt
        obtain ⟨xs, vs, h1, h2, h3⟩ := repL_cells (w := w) (R := RepC w NoO e) (s := e.size) (g := g) len off fun i hi => by
          obtain ⟨c, hc1, x, hx⟩ := hsome i hi
          rw [Addr.add_mid] at hc1
          obtain ⟨hcl, hcc⟩ := cells?_some hc1
          refine ⟨x, c, hcl, hx, fun j hj => ?_⟩
          obtain ⟨u, hu1, hu2⟩ := hcc j hj
          rw [Addr.add_mid] at hu2
          exact ⟨u, hu1, hu2⟩
        have hgl : g < w.heap.size := by
          obtain ⟨c, hc1, _⟩ := hsome 0 (by omega)
          rw [Addr.add_mid] at hc1
          obtain ⟨u, _, hu2⟩ := (cells?_some hc1).2 0 (by omega)
          rw [Addr.add_mid] at hu2
          unfold World.cell? at hu2
          cases hh : w.heap[g]? with
          | none => simp [hh] at hu2
          | some o => exact (Array.getElem?_eq_some_iff.1 hh).1
        refine ⟨xs, _, rfl, .inr ⟨g, off, cap, vs, by rw [h1], fun hx => hlen (by rw [← h1, hx]; rfl), by omega, hcm, hgl, fun h => h, h2, h3⟩⟩
  | _ => exact fun _ => ⟨fun t cs fuel d hl h => hl.elim, fun fs off fuel cs ds hl => hl.elim⟩
def LayAll (P : Program) : List Ty → List TypeId → Prop
  | [], [] => True
  | τ :: r, t :: s => Lay P τ (.inl t) ∧ LayAll P r s
  | _, _ => False
theorem layAll_of {T : Tbl} {Q : List TypeId} (hT : TOk P T Q) : ∀ (ts : List Ty) (tids : List TypeId), (ts.length == tids.length && (ts.zip tids).all fun p => tis T p.2 p.1) = true → LayAll P ts tids
  | [], [], _ => trivial
  | τ :: r, t :: s, h => by
    simp only [List.length_cons, List.zip_cons_cons, List.all_cons, Bool.and_eq_true, beq_iff_eq] at h
    exact ⟨hT.is h.2.1, layAll_of hT r s (by simp only [Bool.and_eq_true, beq_iff_eq]; exact ⟨by omega, h.2.2⟩)⟩
  | [], _ :: _, h => by simp at h
  | _ :: _, [], h => by simp at h
theorem cells_one {v : Value} (hv : ∀ cs, v ≠ .agg cs) : v.cells.toList = [v] := by
  cases v <;> first | rfl | exact absurd rfl (hv _)
theorem trod_repD {τ : Ty} (hg : τ.good = true) {t : TypeId} (hl : Lay P τ (.inl t)) {v : Value} {d : DataW H} {ps : List MemPlace} (h : DataW.Trod enc P w base sp held t v d ps) {r : Reach} {b2 : Nat} (hok : Value.okWide P w r b2 t v) : ∃ x : τ.T, RepD w NoO τ x v := by
  obtain ⟨fuel, h⟩ := h
  obtain ⟨x, hx⟩ := (trod_rep τ hg).1 t _ fuel _ hl h
  refine ⟨x, ?_⟩
  cases hagg : τ.isAgg with
  | true =>
    rw [RepD.agg hagg]
    have : ∃ cs, v = .agg cs := by
      unfold Value.okWide at hok
      cases τ with
      | unit => obtain ⟨fs, hu, _⟩ := hl; rw [hu] at hok; obtain ⟨cs, e, _⟩ := hok; exact ⟨cs, e⟩
      | pair a b => obtain ⟨fs, hu, _⟩ := hl; rw [hu] at hok; obtain ⟨cs, e, _⟩ := hok; exact ⟨cs, e⟩
      | arr k e => obtain ⟨te, hu, _⟩ := hl; rw [hu] at hok; obtain ⟨cs, e, _⟩ := hok; exact ⟨cs, e⟩
      | _ => cases hagg
    obtain ⟨cs, rfl⟩ := this
    exact ⟨cs.toList, by simp, hx⟩
  | false =>
    rw [RepD.scalar hagg]
    have hv : ∀ cs, v ≠ .agg cs := by
      rintro cs rfl
      unfold Value.okWide at hok
      cases τ with
      | bool => rw [hl.1] at hok; simp [Cell.okWide, Cell.ok, hl.1] at hok
      | int k => rw [hl.1] at hok; simp [Cell.okWide, Cell.ok, hl.1] at hok
      | str => rw [hl.1] at hok; simp [Cell.okWide, Cell.ok, hl.1] at hok
      | slice e => obtain ⟨te, hu, _⟩ := hl; rw [hu] at hok; simp [Cell.okWide, Cell.ok, hu] at hok
      | unit => cases hagg
      | pair a b => cases hagg
      | arr k e => cases hagg
      | _ => exact hl.elim
    rw [cells_one hv] at hx
    exact hx
theorem trodAll_rep : ∀ (ts : List Ty) (tids : List TypeId) (vs : List Value) (ds : List (DataW H)) (ps : List MemPlace), (ts.all Ty.good) = true → LayAll P ts tids → DataW.TrodAll enc P w base sp held tids vs ds ps →
    ∀ {r : Reach} {b2 : Nat}, (∀ (j : Nat) t v, tids[j]? = some t → vs[j]? = some v → Value.okWide P w r b2 t v) → ds.length = ts.length ∧ ∃ xs : Args ts, RepA w NoO ts xs vs
  | [], [], [], [], _, _, _, _, _, _, _ => ⟨rfl, (), rfl⟩
  | τ :: ts, t :: tids, v :: vs, d :: ds, ps, hg, hl, h, r, b2, hok => by
    simp only [List.all_cons, Bool.and_eq_true] at hg
    obtain ⟨p, q, h1, h2, _⟩ := h
    obtain ⟨x, hx⟩ := trod_repD hg.1 hl.1 h1 (hok 0 t v rfl rfl)
    obtain ⟨e, xs, hxs⟩ := trodAll_rep ts tids vs ds q hg.2 hl.2 h2 (fun j t' v' hj hv => hok (j + 1) t' v' (by simpa using hj) (by simpa using hv))
    exact ⟨by simp [e], (x, xs), v, vs, rfl, repD_repV hx, hxs⟩
  | [], [], [], _ :: _, _, _, _, h, _, _, _ => h.elim
  | [], [], _ :: _, _, _, _, _, h, _, _, _ => by cases ‹List (DataW H)› <;> exact h.elim
  | _ :: _, _ :: _, [], ds, _, _, _, h, _, _, _ => by cases ds <;> exact h.elim
  | _ :: _, _ :: _, _ :: _, [], _, _, _, h, _, _, _ => h.elim
  | [], _ :: _, _, _, _, _, hl, _, _, _, _ => hl.elim
  | _ :: _, [], _, _, _, _, hl, _, _, _, _ => hl.elim
/-- all arguments read as they did -/
theorem trodAll_below {W W' : World} (hl : laidOutB P = true) (hb : Below W.heap.size W W') : ∀ (tids : List TypeId) (vs : List Value) (ds : List (DataW H)) (ps : List MemPlace), (tids.all fun t => P.readableRec t && decide (t < P.types.size)) = true → DataW.TrodAll enc P W 0 (fun _ => true) true tids vs ds ps → (∀ x ∈ ps, x.block < W.heap.size) →
    ∀ spare : Nat → Bool, (∀ p ∈ ps, spare p.block = true) → DataW.TrodAll enc P W' 0 spare true tids vs ds ps
  | [], [], [], _, _, h, _, _, _ => h
  | t :: tids, v :: vs, d :: ds, ps, ht, h, hlt, spare, hsp => by
    obtain ⟨p, q, h1, h2, rfl⟩ := h
    simp only [List.all_cons, Bool.and_eq_true, decide_eq_true_eq] at ht
    have hp : ∀ x ∈ p, x.block < W.heap.size := fun x hx => hlt x (by simp [hx])
    refine ⟨p, q, ?_, trodAll_below hl hb tids vs ds q ht.2 h2 (fun x hx => hlt x (by simp [hx])) spare (fun x hx => hsp x (by simp [hx])), rfl⟩
    exact WideElems.Trod_stays hl ht.1.1 ht.1.2 h1 (fun x hx => hb.same (hp x hx)) (fun x hx => hsp x (by simp [hx]))
  | [], _ :: _, _, _, _, h, _, _, _ => by cases ‹List (DataW H)› <;> exact h.elim
  | [], [], _ :: _, _, _, h, _, _, _ => h.elim
  | _ :: _, [], ds, _, _, h, _, _, _ => by cases ds <;> exact h.elim
  | _ :: _, _ :: _, [], _, _, h, _, _, _ => h.elim
/-- a law's contract: it answers true -/
def lawCtr (ts : List Ty) : Ctr := { args := ts, pre := fun _ => [], res := .bool, own := none, out := fun _ => true }
theorem law_of_ctr {G : World → Prop} {k : FuncId} {fn : Func} {s : ChangeSpec} {ts : List Ty} (hc : CtrOk P G k (lawCtr ts)) (hlay : LayAll P ts fn.params.toList) (hgood : (ts.all Ty.good) = true) (hvars : s.vars = [])
    (hspec : ∀ (ds : List (DataW H)), ds.length = ts.length → s.fn H ds = { results := [.lit (.bool true)], args := ds }) (hlaid : laidOutB P = true) (hrec : (fn.params.toList.all fun t => P.readableRec t && decide (t < P.types.size)) = true) {tb : TypeId} (hres : fn.resultTypes = #[tb]) (htb : P.underlying tb = some .bool)
    {W : World} {args : Array Value} {ds gs : List (DataW H)} {before : List MemPlace} {b2 : Nat} (hval : ∀ (j : Nat) t v, fn.params[j]? = some t → args[j]? = some v → Value.okWide P W .any b2 t v)
    (hW : DataW.Whole enc P fn.params.toList s.vars false W args.toList ds gs before) (hG : G W) :
    Calls P k args W fun e W' => ∃ v, e = .returned v ∧ s.post enc P fn false true false false W args v W' := by
  have hlt : ∀ p ∈ before, p.block < W.heap.size := fun p hp => hW.lt p hp
  have hW' := hW
  obtain ⟨p, q, hA, hV, rfl, _, _⟩ := hW
  rw [hvars] at hV
  have hgs : gs = [] ∧ q = [] := by
    cases gs with
    | nil => exact ⟨rfl, hV⟩
    | cons g r => exact hV.elim
  obtain ⟨rfl, rfl⟩ := hgs
  obtain ⟨hlen, xs, hxs⟩ := trodAll_rep ts fn.params.toList args.toList ds p hgood hlay hA (r := .any) (b2 := b2) (fun j t v hj hv => hval j t v (by simpa using hj) (by simpa using hv))
  have hcall := hc.2 W NoO xs args.toList (fun g hg => hg.elim) hxs trivial hG
  rw [Array.toArray_toList] at hcall
  refine hcall.mono ?_
  rintro e W' ⟨v, rfl, hb, hr⟩
  have hv : v = .bool true := RepV.bool (hr (fun _ => undef))
  subst hv
  have hfn : s.fn H (ds ++ []) = { results := [.lit (.bool true)], args := ds } := by rw [List.append_nil]; exact hspec ds hlen
  refine ⟨_, rfl, ds, [], _, [], p, [], hW', ?_, ?_, ?_, ?_, fun h => (by cases h)⟩
  · rw [hfn, hres]
    exact ⟨[], [], ⟨1, by simp [DataW.trod, htb, Value.cells, Value.resultList]⟩, rfl, rfl⟩
  · rw [hfn]
    exact trodAll_below hlaid hb _ _ _ _ hrec hA (fun x hx => hlt x (by simp [hx])) _ (fun x hx => by simpa using hlt x (by simp [hx]))
  · rw [hvars, hfn]
    rfl
  · exact World.keptBut_mono (fun x hx => ⟨hx, .inr (.inl (by simpa using hx))⟩) (hb.frame (· ∈ p ++ []))
end
end Go.Proofs.YtbbeldmcdjjnbaaDoor
namespace Go.Proofs.YtbbeldmcdjjnbaaDoor
open Go Go.RowKit
set_option linter.unusedSimpArgs false
set_option linter.unusedVariables false
section
variable {P : Program} {F : Fence} {n : Nat} {b : Go.Frame} {a : Act} {k : List Item} {cs : List Go.Frame} {w : World} {Q : Exit → Act → World → Prop}
theorem stepR_scope {c : Code} : step P (lone (b.atR a (.code (.scope c) :: k)) cs w) = .next (lone (b.atR a (.code c :: .inScope c :: k)) cs w) :=
  step_lone_go (by simp [stepG, stepG.exec, Go.Frame.atR])
theorem stepR_inScope {c : Code} : step P (lone (b.atR a (.inScope c :: k)) cs w) = .next (lone (b.atR a k) cs w) :=
  step_lone_go (by simp [stepG, stepG.exec, Go.Frame.atR])
theorem wpIn_scope {c : Code} (h : c.wpIn F n P (Exit.noGoto Q) a w) : (Code.scope c).wpIn F n P Q a w := by
  intro b k cs hro hb hr
  have h0 : (lone (b.atR a (.code (.scope c) :: k)) cs w).fenced P F := fenced_calm hb hr rfl
  obtain ⟨e, a₁, w₁, hq, harr⟩ := h b (.inScope c :: k) cs hro hb hr
  cases e with
  | normal => exact ⟨.normal, a₁, w₁, hq, .head h0 stepR_scope (StepsIn.trans harr (.one (fenced_calm hb hr rfl) stepR_inScope))⟩
  | exit id' =>
    have hx : exitTo id' (.inScope c :: k) = exitTo id' k := by simp [exitTo]
    exact ⟨.exit id', a₁, w₁, hq, fun k' hk => .head h0 stepR_scope (harr.1 k' (by rw [hx]; exact hk)),
      fun hr' hk => let ⟨k₁, h1, h2⟩ := harr.2 hr' (by rw [hx]; exact hk); ⟨k₁, h1, .head h0 stepR_scope h2⟩⟩
  | goto l => exact hq.elim
  | ret => exact ⟨_, a₁, w₁, hq, .of_steps (.one h0 stepR_scope) harr⟩
  | panic ch => exact ⟨_, a₁, w₁, hq, .of_steps (.one h0 stepR_scope) harr⟩
  | outgrown => exact ⟨_, a₁, w₁, hq, .of_steps (.one h0 stepR_scope) harr⟩
end
section
variable {P : Program} {w0 : World} {X : Ownr} {n : Nat} {σ : AS} {Q : Exit → AS → Prop}
def noGotoQ (Q : Exit → AS → Prop) : Exit → AS → Prop
  | .goto _, _ => False
  | e, σ => Q e σ
theorem AWP.scope {c : Code} (h : AWP P w0 X n c σ (noGotoQ Q)) : AWP P w0 X n (.scope c) σ Q := fun β a w hs =>
  wpIn_scope (Go.wpIn_mono (h β a w hs) fun e a w ⟨σ', β', h1, h2⟩ => by
    cases e with
    | goto l => exact h2.elim
    | _ => exact ⟨σ', β', h1, h2⟩)
end
end Go.Proofs.YtbbeldmcdjjnbaaDoor
namespace Go.Proofs.YtbbeldmcdjjnbaaDoor
open Go Go.RowKit
set_option linter.unusedSimpArgs false
set_option linter.unusedVariables false

def hasN : List Nat → Nat → Bool
  | [], _ => false
  | a :: l, i => bif Nat.beq a i then true else hasN l i
theorem hasN_iff {l : List Nat} {i : Nat} : hasN l i = true ↔ i ∈ l := by
  induction l with
  | nil => simp [hasN]
  | cons a l ih =>
    rw [hasN, cond_eq_ite, List.mem_cons]
    by_cases h : Nat.beq a i = true
    · rw [if_pos h]
      have := Nat.eq_of_beq_eq_true h
      simp [this]
    · rw [if_neg h, ih]
      have : i ≠ a := fun e => h (by rw [e]; exact Nat.beq_refl a)
      simp [this]
/-- the operations from the i-th on that may come next -/
def readyL (done : List Nat) : List Oper → Nat → List Nat
  | [], _ => []
  | o :: l, i => bif (!hasN done i) && (o.after.toList.all fun e => !Region.binds .any e || hasN done e.on) then i :: readyL done l (i + 1) else readyL done l (i + 1)
theorem readyL_mem {done : List Nat} : ∀ {l : List Oper} {i j : Nat} {o : Oper}, l[j]? = some o → hasN done (i + j) = false → (∀ e ∈ o.after, Region.binds .any e = true → hasN done e.on = true) → i + j ∈ readyL done l i
  | [], _, _, _, h, _, _ => by simp at h
  | o :: l, i, 0, o', h, hd, ha => by
    cases h
    have hd : hasN done i = false := hd
    have h2 : (o.after.toList.all fun e => !Region.binds .any e || hasN done e.on) = true := List.all_eq_true.2 fun e he => by
      cases hb : Region.binds .any e with
      | false => rfl
      | true => simp [ha e (Array.mem_toList_iff.1 he) hb]
    simp only [readyL, hd, h2, Bool.not_false, Bool.and_self, cond_true, Nat.add_zero, List.mem_cons, true_or]
  | o :: l, i, j + 1, o', h, hd, ha => by
    have := readyL_mem (done := done) (l := l) (i := i + 1) (j := j) (o := o') (by simpa using h) (by rw [show i + 1 + j = i + (j + 1) by omega]; exact hd) ha
    rw [show i + 1 + j = i + (j + 1) by omega] at this
    rw [readyL, cond_eq_ite]
    split
    · exact List.mem_cons_of_mem _ this
    · exact this
def AllN (p : Nat → Prop) : List Nat → Prop
  | [] => True
  | i :: l => p i ∧ AllN p l
theorem AllN.nil {p : Nat → Prop} : AllN p [] := trivial
theorem AllN.cons {p : Nat → Prop} {i : Nat} {l : List Nat} (h : p i) (h' : AllN p l) : AllN p (i :: l) := ⟨h, h'⟩
theorem AllN.mem {p : Nat → Prop} {l : List Nat} (h : AllN p l) {i : Nat} (hi : i ∈ l) : p i := by
  induction l with
  | nil => cases hi
  | cons a l ih =>
    rcases List.mem_cons.1 hi with rfl | hi
    · exact h.1
    · exact ih h.2 hi
/-- in each order: the conditions hold, and what is left is fine -/
def OrdOk (K : Kn) (n : Nat) (ops : Array Oper) (N : AS → Prop) : Nat → List Nat → AS → Prop
  | 0, _, σ => N σ
  | f + 1, done, σ => AllN (fun i => ∃ o r, ops.toList[i]? = some o ∧ aStep K n ops o σ = some r ∧ allP r.1 ∧ OrdOk K n ops N f (i :: done) r.2) (readyL done ops.toList 0)
section
variable {P : Program} {K : Kn} {w0 : World} {X : Ownr} {n : Nat} {σ : AS} {Q : Exit → AS → Prop} {ops : Array Oper}
theorem OrdOk.step {N : AS → Prop} {f : Nat} {done : List Nat} (l : List Nat) (hl : readyL done ops.toList 0 = l) (h : AllN (fun i => ∃ o r, ops.toList[i]? = some o ∧ aStep K n ops o σ = some r ∧ allP r.1 ∧ OrdOk K n ops N f (i :: done) r.2) l) : OrdOk K n ops N (f + 1) done σ := by
  subst hl
  exact h
theorem OrdOk.last {N : AS → Prop} {done : List Nat} (h : N σ) : OrdOk K n ops N 0 done σ := h
/-- all orders -/
def exts (l : List Oper) : Nat → List Nat → List (List Nat)
  | 0, _ => [[]]
  | f + 1, done => match readyL done l 0 with
    | [] => [[]]
    | i :: r => (i :: r).flatMap fun i => (exts l f (i :: done)).map (List.cons i)
def picks (l : List Oper) : List Nat → List Oper
  | [] => []
  | i :: L => match l[i]? with
    | some o => o :: picks l L
    | none => picks l L
theorem exts_ne (l : List Oper) : ∀ (f : Nat) (done : List Nat), ∃ L, L ∈ exts l f done
  | 0, _ => ⟨[], by simp [exts]⟩
  | f + 1, done => by
    rw [exts]
    split
    · exact ⟨[], by simp⟩
    · rename_i i r _
      obtain ⟨L, hL⟩ := exts_ne l f (i :: done)
      exact ⟨i :: L, List.mem_flatMap.2 ⟨i, by simp, List.mem_map.2 ⟨L, hL, rfl⟩⟩⟩
theorem readyL_get {done : List Nat} : ∀ {l : List Oper} {i k : Nat}, k ∈ readyL done l i → ∃ j o, k = i + j ∧ l[j]? = some o
  | [], _, _, h => by cases h
  | o :: l, i, k, h => by
    rw [readyL, cond_eq_ite] at h
    split at h
    · rcases List.mem_cons.1 h with h | h
      · exact ⟨0, o, by omega, rfl⟩
      · obtain ⟨j, o', h1, h2⟩ := readyL_get h
        exact ⟨j + 1, o', by omega, by simpa using h2⟩
    · obtain ⟨j, o', h1, h2⟩ := readyL_get h
      exact ⟨j + 1, o', by omega, by simpa using h2⟩
def LinOk (K : Kn) (n : Nat) (ops : Array Oper) (N : AS → Prop) (σ : AS) (L : List Nat) : Prop := ∃ r, aSeq K n ops (picks ops.toList L) σ = some r ∧ allP r.1 ∧ N r.2
theorem AllN.of_mem {p : Nat → Prop} {l : List Nat} (h : ∀ i, i ∈ l → p i) : AllN p l := by
  induction l with
  | nil => trivial
  | cons a l ih => exact ⟨h a (by simp), ih fun i hi => h i (by simp [hi])⟩
theorem OrdOk.of_lin {N : AS → Prop} : ∀ (f : Nat) (done : List Nat) (σ : AS), (∀ L, L ∈ exts ops.toList f done → LinOk K n ops N σ L) → OrdOk K n ops N f done σ
  | 0, done, σ, h => by
    obtain ⟨r, h1, h2, h3⟩ := h [] (by simp [exts])
    simp only [picks, aSeq] at h1
    cases h1
    exact h3
  | f + 1, done, σ, h => by
    rw [OrdOk]
    apply AllN.of_mem
    intro i hi
    have hin : ∀ L, L ∈ exts ops.toList f (i :: done) → i :: L ∈ exts ops.toList (f + 1) done := fun L hL => by
      rw [exts]
      split
      · rename_i e; rw [e] at hi; cases hi
      · rename_i e; rw [e] at hi; exact List.mem_flatMap.2 ⟨i, hi, List.mem_map.2 ⟨L, hL, rfl⟩⟩
    obtain ⟨j, o, hj, ho⟩ := readyL_get hi
    have hij : i = j := by omega
    subst hij
    have key : ∀ L, L ∈ exts ops.toList f (i :: done) → ∃ p s, aStep K n ops o σ = some (p, s) ∧ allP p ∧ LinOk K n ops N s L := fun L hL => by
      obtain ⟨r, h1, h2, h3⟩ := h _ (hin L hL)
      simp only [picks, ho, aSeq] at h1
      split at h1 <;> first | (cases h1; done) | skip
      rename_i p s e
      obtain ⟨q, h4, rfl⟩ := preS_some h1
      simp only [allP_append] at h2
      exact ⟨p, s, e, h2.1, q, h4, h2.2, h3⟩
    obtain ⟨L0, hL0⟩ := exts_ne ops.toList f (i :: done)
    obtain ⟨p, s, h1, h2, _⟩ := key L0 hL0
    refine ⟨o, (p, s), ho, h1, h2, OrdOk.of_lin f _ _ fun L hL => ?_⟩
    obtain ⟨p', s', h3, _, h5⟩ := key L hL
    rw [h1] at h3
    cases h3
    exact h5
def AllL (p : List Nat → Prop) : List (List Nat) → Prop
  | [] => True
  | i :: l => p i ∧ AllL p l
theorem AllL.nil {p : List Nat → Prop} : AllL p [] := trivial
theorem AllL.cons {p : List Nat → Prop} {i : List Nat} {l : List (List Nat)} (h : p i) (h' : AllL p l) : AllL p (i :: l) := ⟨h, h'⟩
theorem AllL.mem {p : List Nat → Prop} {l : List (List Nat)} (h : AllL p l) {i : List Nat} (hi : i ∈ l) : p i := by
  induction l with
  | nil => cases hi
  | cons a l ih =>
    rcases List.mem_cons.1 hi with rfl | hi
    · exact h.1
    · exact ih h.2 hi
theorem LinOk.mk {N : AS → Prop} {L : List Nat} {r : List Prop × AS} (h : aSeq K n ops (picks ops.toList L) σ = some r) (hp : allP r.1) (hN : N r.2) : LinOk K n ops N σ L := ⟨r, h, hp, hN⟩
theorem orders_any {β : Nat → Value} {a : Act} {w : World} {R : Exit → Act → World → Prop} (hK : KnOk P X.G K) (hX : X.Ok w0) (h : Sim w0 X n σ β a w) (hb : backB ops = true) {N : AS → Prop}
    (ho : OrdOk K n ops N ops.size [] σ) (hR : ∀ s β' a' w', N s → Sim w0 X n s β' a' w' → R .normal a' w') :
    wpAny P .any ops R ops.size (Array.replicate ops.size false) a { w with drawn := w.drawn + 1 } := by
  let W := w.drew
  have hsim : Sim w0 X n σ β a W := ⟨h.sz, h.df, h.bel.then ((Below.refl _ _).drew), fun s => RepV.keep (.of_below ((Below.refl _ _).drew) fun _ _ h => h) _ _ _ (h.fr s), fun i o ho => (h.own i o ho).keep (.of_below ((Below.refl _ _).drew) fun _ _ h => h) fun _ _ => rfl, h.new, h.inj, h.lt, h.fix, h.hb, h.hE⟩
  let I : Array Bool → Act → World → Prop := fun listed a' w' => ∃ done s β', listed.size = ops.size ∧ (∀ i, i < ops.size → (listed.getD i false = true ↔ i ∈ done)) ∧ Sim w0 X n s β' a' w' ∧ OrdOk K n ops N (left listed ops.size) done s
  have hl0 : left (Array.replicate ops.size false) ops.size = ops.size := by
    unfold left
    have : (List.range ops.size).filter (fun i => !(Array.replicate ops.size false).getD i false) = List.range ops.size := by
      rw [List.filter_eq_self]
      intro i _
      rw [getD_replicate_false]
      rfl
    rw [this, List.length_range]
  suffices hkey : wpAny P .any ops R (left (Array.replicate ops.size false) ops.size + 0) (Array.replicate ops.size false) a W by
    rw [Nat.add_zero, hl0] at hkey
    exact hkey
  refine wpAny_head (Nat.le_refl _) hb (.inl rfl) I ?_ ?_ _ _ a W rfl ⟨by simp, fun j oj _ hlj => (by rw [getD_replicate_false] at hlj; cases hlj), fun t ht1 ht => absurd ht (by omega)⟩ ⟨[], σ, β, by simp, fun i _ => by rw [getD_replicate_false]; simp, hsim, by rw [hl0]; exact ho⟩
  · rintro listed a' w' ⟨done, s, β', hsz, hd, hs, hok⟩ i him hir
    obtain ⟨hun, o, ho, hdone⟩ := mem_ready.1 hir
    have hunf : listed.getD i false = false := getD_both hun
    have hlt := left_set him (by rw [hsz]; exact him) hunf
    rw [← hlt] at hok
    have hmem : 0 + i ∈ readyL done ops.toList 0 := readyL_mem (o := o) (by simpa using ho) (by
      rw [Nat.zero_add]
      cases hh : hasN done i with
      | false => rfl
      | true => rw [(hd i him).2 (hasN_iff.1 hh)] at hunf; cases hunf) fun e he hbd => by
        have h1 := hdone e he hbd
        by_cases hlt : e.on < ops.size
        · exact hasN_iff.2 ((hd _ hlt).1 h1)
        · rw [Array.getD_eq_getD_getElem?, Array.getElem?_eq_none (by omega)] at h1
          cases h1
    rw [Nat.zero_add] at hmem
    obtain ⟨o', r, h1, h2, h3, h4⟩ := AllN.mem hok hmem
    have : o' = o := by
      rw [Array.getElem?_toList, ho] at h1
      cases h1
      rfl
    subst this
    unfold wpOp
    rw [ho]
    simp only
    refine aStep_wp hK hX hs h2 h3 fun β2 a2 w2 hs2 => ⟨i :: done, r.2, β2, by simp [hsz], fun j hj => ?_, hs2, h4⟩
    by_cases hji : i = j
    · subst hji
      simp [Array.getD, hsz, him]
    · rw [getD_set_ne false hji, hd j hj, List.mem_cons]
      constructor
      · exact fun h => .inr h
      · rintro (h | h)
        · exact absurd h.symm hji
        · exact h
  · rintro listed a' w' inv hall ⟨done, s, β', hsz, hd, hs, hok⟩
    have hz : left listed ops.size = 0 := by
      unfold left
      rw [List.length_eq_zero_iff, List.filter_eq_nil_iff]
      intro i hi
      rw [hall i (List.mem_range.1 hi)]
      simp
    rw [hz] at hok
    have hfit : N s := hok
    refine ⟨?_, hR _ _ _ _ hfit hs⟩
    apply List.eq_nil_iff_forall_not_mem.2
    intro i hi
    obtain ⟨hun, o, ho, _⟩ := mem_ready.1 hi
    have hlt := (Array.getElem?_eq_some_iff.1 ho).1
    have := getD_both hun
    rw [hall i hlt] at this
    cases this
/-- two ways that come to one state -/
theorem AWP.join {c d : Code} {σ' : AS} (h1 : AWP P w0 X n c σ (thenQ (fun s => Fit s σ') Q)) (h2 : AWP P w0 X n d σ' Q) (hk : X.K ≤ σ'.nx := by exact Nat.le_of_ble_eq_true rfl) : AWP P w0 X n (.seq c d) σ Q :=
  AWP.seq (AWP.mono h1 fun e s h => by
    cases e with
    | normal => exact AWP.fit h h2 hk
    | _ => exact h)
/-- a region that draws its order, in all orders -/
theorem AWP.orders (hm : P.follows .mixedOrders = true) (hX : X.Ok w0) (hK : KnOk P X.G K) {id : Nat} (f : Nat) (hf : ops.toList.length = f) (hb : backB ops = true) {σ' : AS} (L : List (List Nat)) (hL : exts ops.toList f [] = L) (ho : AllL (LinOk K n ops (fun s => Fit s σ') σ) L) (hq : Q .normal σ')
    (hd : noDefer ops.toList = true := by rfl) (hk : X.K ≤ σ'.nx := by exact Nat.le_of_ble_eq_true rfl) : AWP P w0 X n (.region id ops true) σ Q := fun _ _ _ h => by
  have hf' : ops.size = f := hf
  subst hf'
  exact Go.wpIn_mono (wpIn_region_any hm (wpAnyIn_of_wpAny (R := fun e a w => e = .normal ∧ ∃ β', Sim w0 X n σ' β' a w) not_lets hd _ (orders_any hK hX h hb (N := fun s => Fit s σ') (OrdOk.of_lin _ _ _ fun l hl => AllL.mem ho (hL ▸ hl)) fun s β' _ _ hf h' => ⟨rfl, β', h'.fit hf hk⟩))) fun e a w ⟨he, β', h'⟩ => by
    subst he; exact ⟨σ', β', h', hq⟩
/-- a region that draws its order, in all orders; the slice that it leaves in a slot is given away -/
theorem AWP.ordersF (x : Nat) (hm : P.follows .mixedOrders = true) (hX : X.Ok w0) (hK : KnOk P X.G K) {id : Nat} (f : Nat) (hf : ops.toList.length = f) (hb : backB ops = true) {σ' : AS} (L : List (List Nat)) (hL : exts ops.toList f [] = L) (ho : AllL (LinOk K n ops (fun s => Fit (Go.Proofs.YtbbeldmcdjjnbaaDoor.frz s (.tmp x)) σ') σ) L) (hq : Q .normal σ')
    (hd : noDefer ops.toList = true := by rfl) (hk : X.K ≤ σ'.nx := by exact Nat.le_of_ble_eq_true rfl) : AWP P w0 X n (.region id ops true) σ Q := fun _ _ _ h => by
  have hf' : ops.size = f := hf
  subst hf'
  exact Go.wpIn_mono (wpIn_region_any hm (wpAnyIn_of_wpAny (R := fun e a w => e = .normal ∧ ∃ β', Sim w0 X n σ' β' a w) not_lets hd _ (orders_any hK hX h hb (N := fun s => Fit (Go.Proofs.YtbbeldmcdjjnbaaDoor.frz s (.tmp x)) σ') (OrdOk.of_lin _ _ _ fun l hl => AllL.mem ho (hL ▸ hl)) fun s β' _ _ hf h' => ⟨rfl, β', (h'.frz hX (.tmp x)).fit hf hk⟩))) fun e a w ⟨he, β', h'⟩ => by
    subst he; exact ⟨σ', β', h', hq⟩
end
end Go.Proofs.YtbbeldmcdjjnbaaDoor
namespace Go.Proofs.YtbbeldmcdjjnbaaDoor
open Go Go.RowKit
set_option linter.unusedSimpArgs false
set_option linter.unusedVariables false
section
variable {P : Program} {K : Kn} {w0 : World} {X : Ownr} {n : Nat} {σ : AS} {β : Nat → Value} {a : Act} {w : World} {ops : Array Oper} {R : Exit → Act → World → Prop} {Q : Exit → AS → Prop}
theorem setRow_comm (w : World) {g k : Nat} (h : g ≠ k) (c d : Array Value) : (w.setRow g c).setRow k d = (w.setRow k d).setRow g c := by
  unfold World.setRow
  congr 1
  apply Array.ext_getElem?
  intro i
  simp only [Array.getElem?_modify]
  by_cases h1 : k = i <;> by_cases h2 : g = i <;> simp [h1, h2]
  omega
theorem storeOne {τ : Ty} {t : TypeId} (ht : Lay P τ (.inl t)) (hs : τ.size = 1) {g off : Nat} {u : Value} {cur : Array Value} {ty : TypeId} (hg : w.heap[g]? = some (.cells cur ty (0, 0))) (hf : off + 1 ≤ cur.size) (hu : u.cells = #[u]) (h1 : u.oneCell' = true) :
    (Instr.storeAt t (.pointer (some ⟨g, off, none⟩)) u).run P w = .ok () (w.setRow g (cur.toList.take off ++ [u] ++ cur.toList.drop (off + 1)).toArray) := by
  have hrun := run_storeCells_at P g off ty [u] 0 cur w hg (by simpa using hf) (by simpa using h1)
  simp only [Nat.add_zero, List.length_singleton] at hrun
  unfold Instr.storeAt Instr.sureAddr storeVar
  simp only [Sem.run_bind, Sem.run_pure, Result.andThen_ok, ht.sizeOf, hu, hs]
  rw [if_neg (by simp)]
  exact hrun
theorem copy_none {dT sT ty te : TypeId} {A B : Option Addr} {c d : Nat} {s : Nat} (hu : P.underlying dT = some (.slice te)) (hs : (Go.sizeOf te).run P w = .ok s w) :
    (Builtin.copy_ #[dT, sT] ty #[.slice A 0 c, .slice B 0 d]).run P w = .ok (goInt 0) w := by
  cases A <;> cases B <;> simp [Builtin.copy_, run_underlying hu, hs, Builtin.lenOf, Builtin.firstCells, storeCells, loadCells, loadCellsFrom]
theorem wpList_one {o : Oper} {l : List Oper} {u : Value} {w' : World} (hg : o.guard = none) (h : (execOp a.eval o).run P w = .ok (.value u) w') (hn : wpList P ops R l (a.put o.dst u) w') : wpList P ops R (o :: l) a w := by
  simp only [wpList, wpOp, Region.wanted, hg, if_true]
  exact .inl (wp_run h hn)
theorem copy_exec {ev : Operand → Value} {o : Oper} {x y : Operand} {ts : Array TypeId} (h5 : o.op = .call ⟨.builtin .copy, #[x, y], ts⟩) {u v r : Value} (hx : ev x = u) (hy : ev y = v) {w w' : World} (hrun : (Builtin.copy_ ts o.type #[u, v]).run P w = .ok r w') :
    (execOp ev o).run P w = .ok (.value r) w' := by
  subst hx; subst hy
  simp only [execOp, h5, resolve, builtin]
  simp [invoke, builtin, hrun, Result.andThen]
theorem take_over (c : List Value) (v : Value) (k m : Nat) (h : k < m) (hm : m ≤ c.length) : (c.take k ++ [v] ++ c.drop (k + 1)).take m = (c.take m).take k ++ [v] ++ (c.take m).drop (k + 1) := by
  rw [List.take_take, Nat.min_eq_left (by omega), List.append_assoc, List.append_assoc, List.take_append, List.length_take, Nat.min_eq_left (by omega), List.take_take, Nat.min_eq_right (by omega), List.drop_take]
  congr 1
  obtain ⟨d, hd⟩ : ∃ d, m - k = d + 1 := ⟨m - k - 1, by omega⟩
  rw [hd, List.singleton_append, List.take_succ_cons, List.singleton_append, show m - (k + 1) = d by omega]
theorem row_world (hX : X.Ok w0) (hK : KnOk P X.G K) {σ1 : AS} (hsim : Sim w0 X n σ1 β a w) {i j k sv : Nat} {ts to_ tu : TypeId} {xs : List (List UInt8)} {ys zs : List UInt8} {uy : Value}
    (hts : tis K.T ts (.slice (.int .u8)) = true) (hsv : Frame.get σ1.F sv = ⟨.obuf (.int .u8), j⟩)
    (hi : Owns.get σ1.E i = some (.buf to_ (.slice (.int .u8)) xs)) (hj : Owns.get σ1.E j = some (.buf tu (.int .u8) zs)) (hij : i ≠ j) (hk : k < xs.length) (hlen : zs.length = ys.length)
    (hy : RepV w (OSet X σ1.E β) β (.slice (.int .u8)) ys uy) :
    ∃ w2 w3 gh cap, β i = .slice (some ⟨gh, 0, none⟩) xs.length cap ∧ (Instr.storeAt ts (.pointer (some ⟨gh, k, none⟩)) (β j)).run P w = .ok () w2 ∧ w2.cell? ⟨gh, k, none⟩ = some (β j) ∧
      (∀ ty, (Builtin.copy_ #[ts, ts] ty #[β j, uy]).run P w2 = .ok (goInt ys.length) w3) ∧
      Sim w0 X n ⟨Frame.thaw j (.int .u8) ys σ1.F, (i, some (.buf to_ (.slice (.int .u8)) (xs.set k ys))) :: (j, none) :: (j, some (.buf tu (.int .u8) ys)) :: σ1.E, σ1.nx⟩ β a w3 := by
  obtain ⟨cs, hL, hrow, hpos⟩ := hsim.own i _ hi
  rcases hrow.2 with ⟨_, hz⟩ | ⟨gh, cap, cur, hβ, _, hg, hcap, hm, hcs, htake⟩
  · exact absurd hz (by omega)
  obtain ⟨csz, hLz, hrowz, hposz⟩ := hsim.own j _ hj
  obtain ⟨te, hut, _, hte⟩ := hK.t.is hts
  have hlay : Lay P (.slice (.int .u8)) (.inl ts) := hK.t.is hts
  have hbi : blockOf (β i) = some gh := by rw [hβ]; rfl
  have hcur : cur.size = cap := by rw [hcs]; exact Nat.mul_one _
  have hvs : ∃ A m c, β j = .slice A m c := by
    rcases hrowz.2 with ⟨e, _⟩ | ⟨g, c, _, e, _⟩
    · exact ⟨_, _, _, e⟩
    · exact ⟨_, _, _, e⟩
  have hvc : (β j).cells = #[β j] := by obtain ⟨A, m, c, e⟩ := hvs; rw [e]; rfl
  have hv1 : (β j).oneCell' = true := by obtain ⟨A, m, c, e⟩ := hvs; rw [e]; rfl
  let C : Array Value := (cur.toList.take k ++ [β j] ++ cur.toList.drop (k + 1)).toArray
  have hst : (Instr.storeAt ts (.pointer (some ⟨gh, k, none⟩)) (β j)).run P w = .ok () (w.setRow gh C) := storeOne hlay rfl hg (by omega) hvc hv1
  have hg2 : (w.setRow gh C).heap[gh]? = some (.cells C to_ (0, 0)) := setRow_heap w gh cur C _ _ hg
  have hCk : C[k]? = some (β j) := by
    show (cur.toList.take k ++ [β j] ++ cur.toList.drop (k + 1)).toArray[k]? = _
    rw [List.getElem?_toArray, List.append_assoc, List.getElem?_append_right (by rw [List.length_take]; omega), List.length_take, Array.length_toList, Nat.min_eq_left (by omega), Nat.sub_self]
    rfl
  have hCs : C.size = cap := by
    show (cur.toList.take k ++ [β j] ++ cur.toList.drop (k + 1)).toArray.size = _
    simp only [List.size_toArray, List.length_append, List.length_take, List.length_drop, Array.length_toList, List.length_singleton]
    omega
  have hcell : (w.setRow gh C).cell? ⟨gh, k, none⟩ = some (β j) := by
    unfold World.cell?
    rw [hg2]
    simp only [Option.isSome_none, Bool.false_eq_true, if_false]
    exact hCk
  -- the end, once the row is filled ahead of the store
  have fin : ∀ wa, wa.heap[gh]? = w.heap[gh]? → Sim w0 X n ⟨σ1.F, (j, some (.buf tu (.int .u8) ys)) :: σ1.E, σ1.nx⟩ β a wa →
      Sim w0 X n ⟨Frame.thaw j (.int .u8) ys σ1.F, (i, some (.buf to_ (.slice (.int .u8)) (xs.set k ys))) :: (j, none) :: (j, some (.buf tu (.int .u8) ys)) :: σ1.E, σ1.nx⟩ β a (wa.setRow gh C) := by
    intro wa hwa hA
    have hF := hA.freeze hX (i := j) (te := tu) (t := .int .u8) (xs := ys) (by rw [Owns.get_cons, if_pos rfl])
    have hiF : Owns.get ((j, none) :: (j, some (.buf tu (.int .u8) ys)) :: σ1.E) i = some (.buf to_ (.slice (.int .u8)) xs) := by
      rw [Owns.get_cons, if_neg (Ne.symm hij), Owns.get_cons, if_neg (Ne.symm hij)]
      exact hi
    have hv : RepV wa (OSet X ((j, none) :: (j, some (.buf tu (.int .u8) ys)) :: σ1.E) β) β (.slice (.int .u8)) ys (β j) := by
      have h1 := hF.fr sv
      have e : Frame.get (Frame.thaw j (.int .u8) ys σ1.F) sv = ⟨.slice (.int .u8), ys⟩ := by
        rw [Frame.get_thaw, hsv]
        simp [Go.Proofs.YtbbeldmcdjjnbaaDoor.thaw]
      have h2 := hsim.fr sv
      rw [hsv] at h2
      have h2 : a.tmps.getD sv undef = β j := h2
      rw [← h2]
      revert h1
      show RepV _ _ _ (Frame.get (Frame.thaw j (.int .u8) ys σ1.F) sv).t _ _ → _
      rw [e]
      exact id
    refine hF.write hiF (by rw [hbi]; exact grownBy_row wa gh C) (fun hkk => ?_) rfl
    obtain ⟨cs2, hL2, hrow2, _⟩ := hF.own i _ hiF
    rcases hrow2.2 with ⟨_, hz⟩ | ⟨gh2, cap2, cur2, hβ2, _, hg3, hcap2, hm2, hcs2, htake2⟩
    · exact absurd hz (by omega)
    rw [hβ] at hβ2
    cases hβ2
    rw [hwa, hg] at hg3
    cases hg3
    have hvC : RepC wa (OSet X ((j, none) :: (j, some (.buf tu (.int .u8) ys)) :: σ1.E) β) (.slice (.int .u8)) ys [β j] := ⟨_, rfl, RepV.slice hv⟩
    have hset := hL2.set (s := 1) (i := k) (fun x c => RepC.len (.slice (.int .u8)) x c) hk hvC
    refine ⟨_, hset.mono fun x _ c => RepC.keep hkk _ _ _, ⟨?_, .inr ⟨gh, cap, C, by rw [List.length_set]; exact hβ, Nat.zero_le _, setRow_heap wa gh cur C _ _ (by rw [hwa]; exact hg), by rw [List.length_set]; exact hcap, hm, by rw [hCs]; exact (Nat.mul_one _).symm, ?_⟩⟩, Nat.one_pos⟩
    · have h9 : cs2.length = xs.length * 1 := hrow2.1
      show _ = (xs.set k ys).length * 1
      rw [List.length_set]
      simp only [List.length_append, List.length_take, List.length_drop, List.length_singleton]
      omega
    · have h9 : List.take (xs.length * 1) cur.toList = cs2 := htake2
      show C.toList.take ((xs.set k ys).length * 1) = _
      rw [List.length_set, Nat.mul_one, Nat.mul_one, ← h9, Nat.mul_one]
      exact take_over _ _ _ _ hk (by have : cur.toList.length = cur.size := Array.length_toList; omega)
  by_cases hys : ys = []
  · subst hys
    have hz0 : zs = [] := List.eq_nil_of_length_eq_zero hlen
    subst hz0
    have eA : ∃ A c, β j = .slice A 0 c := by
      rcases hrowz.2 with ⟨e, _⟩ | ⟨g, c, _, e, _⟩
      · exact ⟨_, _, e⟩
      · exact ⟨_, _, e⟩
    have eB : ∃ A c, uy = .slice A 0 c := by
      rcases RepV.slice hy with ⟨_, A, c, e, _⟩ | ⟨_, _, _, _, _, hx, _⟩
      · exact ⟨A, c, e⟩
      · exact absurd rfl hx
    obtain ⟨A, c, eA⟩ := eA
    obtain ⟨B, d, eB⟩ := eB
    refine ⟨w.setRow gh C, w.setRow gh C, gh, cap, hβ, hst, hcell, fun ty => by rw [eA, eB]; exact copy_none hut hte.sizeOf, fin w rfl ?_⟩
    exact hsim.write hj ⟨rfl, rfl, rfl, Nat.le_refl _, fun _ _ _ => rfl⟩ (fun _ => hsim.own j _ hj) rfl
  · rcases hrowz.2 with ⟨_, hz⟩ | ⟨gz, capz, curz, hβz, _, hgz, hcapz, hmz, hcsz, htakez⟩
    · exact absurd (List.eq_nil_of_length_eq_zero (by omega)) hys
    have hbz : blockOf (β j) = some gz := by rw [hβz]; rfl
    have hne : gz ≠ gh := fun e => hsim.inj i j _ _ hi hj hij gh hbi (by rw [hbz, e])
    rcases RepV.slice hy with ⟨e, _⟩ | ⟨g2, off2, c2, vs, euy, hx, hc2, hm2, hg2lt, hnO, hLy, hcells⟩
    · exact absurd e hys
    subst euy
    have hvs2 := repL_bytes hLy
    have hvl : vs.length = ys.length := by rw [hvs2, List.length_map]
    have hg2 : g2 ≠ gh := fun e => hnO (.inr ⟨i, _, hi, by rw [hbi, e]⟩)
    have hg2z : g2 ≠ gz := fun e => hnO (.inr ⟨j, _, hj, by rw [hbz, e]⟩)
    have hcz : curz.size = capz := by rw [hcsz]; exact Nat.mul_one _
    have hrun := fun ty => run_copy_row (P := P) (w.setRow gh C) ts ts ty te gz 0 zs.length capz ⟨g2, off2, none⟩ ys.length c2 curz tu vs hut (by rw [hte.cellSize]; rfl) (by rw [setRow_other w gh gz C hne]; exact hgz)
      (by rw [hvl, hlen]; exact (Nat.min_self _).symm)
      (fun q u hu => by
        rw [Addr.add_mid]
        have := hcells q u hu
        unfold World.cell? at *
        rw [setRow_other w gh g2 C hg2]
        exact this)
      (by rw [Nat.zero_add, hvl, ← hlen, hcz]; exact hcapz) (fun u hu => by rw [hvs2] at hu; obtain ⟨b, _, rfl⟩ := List.mem_map.1 hu; rfl)
    let D : Array Value := (curz.toList.take 0 ++ vs ++ curz.toList.drop (0 + vs.length)).toArray
    have hDs : D.size = capz := by
      show (curz.toList.take 0 ++ vs ++ curz.toList.drop (0 + vs.length)).toArray.size = _
      simp only [List.size_toArray, List.length_append, List.length_take, List.length_drop, Array.length_toList]
      omega
    refine ⟨w.setRow gh C, (w.setRow gh C).setRow gz D, gh, cap, hβ, hst, hcell, fun ty => by
      have e : goInt ((ys.length : Nat) : Int) = goInt ((vs.length : Nat) : Int) := by rw [hvl]
      rw [hβz, e]
      exact hrun ty, ?_⟩
    rw [setRow_comm w (Ne.symm hne)]
    refine fin (w.setRow gz D) (setRow_other w gz gh D (Ne.symm hne)) (hsim.write hj (by rw [hbz]; exact grownBy_row w gz D) (fun hkk => ?_) rfl)
    refine ⟨vs, hLy.mono fun x _ c => RepC.keep hkk _ _ _, ⟨by show vs.length = ys.length * 1; omega, .inr ⟨gz, capz, D, by rw [← hlen]; exact hβz, Nat.zero_le _, setRow_heap w gz curz D _ _ hgz, by rw [← hlen]; exact hcapz, hmz, by rw [hDs]; exact (Nat.mul_one _).symm, ?_⟩⟩, Nat.one_pos⟩
    show (curz.toList.take 0 ++ vs ++ curz.toList.drop (0 + vs.length)).take (ys.length * 1) = vs
    rw [List.take_zero, List.nil_append, Nat.mul_one, ← hvl, List.take_left]

/-- make a row, store it into an own slice of slices, copy into it what is read there -/
theorem AWP.rowCopy (hX : X.Ok w0) (hK : KnOk P X.G K) {id1 id2 : Nat} {ops1 ops2 : Array Oper} {o6 c0 c1 c2 c3 c4 c5 : Oper} (q1 : ops1.toList.drop 6 = [o6]) (e2 : ops2.toList = [c0, c1, c2, c3, c4, c5])
    {p1 : List Prop} {σ1 : AS} (hs : aSeq K n ops1 (ops1.toList.take 6) σ = some (p1, σ1)) (hp : allP p1)
    {sp sv so si sb d0 d1 d2 d3 d4 d5 i j k : Nat} {kI : Int} {ts xt to_ tu : TypeId} {xs : List (List UInt8)} {ys zs : List UInt8}
    (h6 : o6.op = .store ts (.tmp sp) (.tmp sv)) (h6d : o6.dst = none) (h6g : o6.guard = none)
    (h0 : c0.op = .move (.tmp so)) (h0d : c0.dst = some d0) (h0g : c0.guard = none)
    (h1 : c1.op = .move (.tmp si)) (h1d : c1.dst = some d1) (h1g : c1.guard = none)
    (h2 : c2.op = .indexAddr xt (.tmp d0) (.tmp d1)) (h2d : c2.dst = some d2) (h2g : c2.guard = none)
    (h3 : c3.op = .load ts (.tmp d2)) (h3d : c3.dst = some d3) (h3g : c3.guard = none)
    (h4 : c4.op = .move (.tmp sb)) (h4d : c4.dst = some d4) (h4g : c4.guard = none)
    (h5 : c5.op = .call ⟨.builtin .copy, #[.tmp d3, .tmp d4], #[ts, ts]⟩) (h5d : c5.dst = some d5) (h5g : c5.guard = none)
    (hts : tis K.T ts (.slice (.int .u8)) = true) (hxt : tis K.T xt (.slice (.slice (.int .u8))) = true)
    (hsp : Frame.get σ1.F sp = ⟨.optr (.slice (.int .u8)), ⟨i, .slice (.slice (.int .u8)), .elm k⟩⟩) (hsv : Frame.get σ1.F sv = ⟨.obuf (.int .u8), j⟩)
    (hso : Frame.get σ1.F so = ⟨.obuf (.slice (.int .u8)), i⟩) (hsi : Frame.get σ1.F si = ⟨.int .i64, kI⟩) (hsb : Frame.get σ1.F sb = ⟨.slice (.int .u8), ys⟩)
    (hi : Owns.get σ1.E i = some (.buf to_ (.slice (.int .u8)) xs)) (hj : Owns.get σ1.E j = some (.buf tu (.int .u8) zs)) (hij : i ≠ j)
    (hk0 : 0 ≤ kI) (hkk : kI.toNat = k) (hk : k < xs.length) (hlen : zs.length = ys.length)
    (hn0 : d0 < n) (hn1 : d1 < n) (hn2 : d2 < n) (hn3 : d3 < n) (hn4 : d4 < n) (hn5 : d5 < n)
    (ne1 : d0 ≠ si) (ne2 : d0 ≠ d1) (ne3 : d0 ≠ sb) (ne4 : d1 ≠ sb) (ne5 : d2 ≠ sb) (ne6 : d3 ≠ sb) (ne7 : d3 ≠ d4)
    (hq : Q .normal ⟨(d5, ⟨.junk, ()⟩) :: (d4, ⟨.junk, ()⟩) :: (d3, ⟨.junk, ()⟩) :: (d2, ⟨.junk, ()⟩) :: (d1, ⟨.junk, ()⟩) :: (d0, ⟨.junk, ()⟩) :: Frame.thaw j (.int .u8) ys σ1.F,
      (i, some (.buf to_ (.slice (.int .u8)) (xs.set k ys))) :: (j, none) :: (j, some (.buf tu (.int .u8) ys)) :: σ1.E, σ1.nx⟩)
    (hd1 : noDefer (ops1.toList.take 6) = true := by rfl) (hd2 : noDefer [o6] = true := by rfl) (hd3 : noDefer ops2.toList = true := by rfl) :
    AWP P w0 X n (.seq (.region id1 ops1 false) (.region id2 ops2 false)) σ Q := by
  intro β a w h
  have e1 : ops1.toList = ops1.toList.take 6 ++ [o6] := by rw [← q1, List.take_append_drop]
  have hd3 : noDefer [c0, c1, c2, c3, c4, c5] = true := by rw [← e2]; exact hd3
  refine wpIn_seq (Go.wpIn_mono (Q := fun e a w => e = .normal ∧ (Code.region id2 ops2 false).wpIn (wideR X.ρ) 0 P (fun e a w => ∃ σ' β', Sim w0 X n σ' β' a w ∧ Q e σ') a w) (wpIn_region_list ?_) fun e a w ⟨he, hm⟩ => by subst he; exact hm)
  rw [e1]
  refine wpListIn_append _ _ (wpListIn_of_wpList (ρ := X.ρ) not_lets _ hd1 (aSeq_wp hK hX _ h hs hp fun β1 a1 w1 s1 => ⟨rfl, ?_⟩))
  refine wpListIn_of_wpList (ρ := X.ρ) not_lets _ hd2 ?_
  have hy := s1.fr sb
  rw [hsb] at hy
  obtain ⟨w2, w3, gh, cap, hβ, hst, hcell, hcopy, hS⟩ := row_world hX hK s1 hts hsv hi hj hij hk hlen hy
  have hpv := s1.fr sp
  rw [hsp] at hpv
  obtain ⟨g, hb, hpv⟩ := hpv
  have hb : blockOf (β1 i) = some g := hb
  rw [hβ] at hb
  cases hb
  have hpv : a1.tmps.getD sp undef = .pointer (some ⟨gh, k * 1, none⟩) := hpv
  rw [Nat.mul_one] at hpv
  have hvv := s1.fr sv
  rw [hsv] at hvv
  have hvv : a1.tmps.getD sv undef = β1 j := hvv
  have hov := s1.fr so
  rw [hso] at hov
  have hov : a1.tmps.getD so undef = β1 i := hov
  have hiv := s1.fr si
  rw [hsi] at hiv
  have hiv : a1.tmps.getD si undef = .int .i64 kI := RepV.int hiv
  have hsz := s1.sz
  have ex6 : (execOp a1.eval o6).run P w1 = .ok .skip w2 := by
    unfold execOp
    simp only [h6]
    show Sem.run P (do Instr.storeAt ts (a1.tmps.getD sp undef) (a1.tmps.getD sv undef); _) w1 = _
    rw [hpv, hvv]
    simp [hst]
  simp only [wpList, wpOp, Region.wanted, h6g, if_true]
  refine .inl ?_
  unfold Oper.wp
  rw [ex6]
  show True ∧ (Code.region id2 ops2 false).wpIn (wideR X.ρ) 0 P (fun e a w => ∃ σ' β', Sim w0 X n σ' β' a w ∧ Q e σ') (a1.put o6.dst undef) w2
  rw [h6d]
  refine ⟨trivial, Go.wpIn_mono (Q := fun e a w => e = .normal ∧ ∃ σ' β', Sim w0 X n σ' β' a w ∧ Q .normal σ') (wpIn_region_list ?_) fun e a w ⟨he, hm⟩ => by subst he; exact hm⟩
  rw [e2]
  refine wpListIn_of_wpList (ρ := X.ρ) not_lets _ hd3 ?_
  show wpList P ops2 _ _ a1 w2
  obtain ⟨te, hut, _, hte⟩ := hK.t.is hxt
  have hlay : Lay P (.slice (.int .u8)) (.inl ts) := hK.t.is hts
  obtain ⟨uy, huy⟩ : ∃ u, a1.tmps.getD sb undef = u := ⟨_, rfl⟩
  have hcopy : ∀ ty, (Builtin.copy_ #[ts, ts] ty #[β1 j, uy]).run P w2 = .ok (goInt ys.length) w3 := by rw [← huy]; exact hcopy
  obtain ⟨b0, hb0⟩ : ∃ b, a1.put (some d0) (β1 i) = b := ⟨_, rfl⟩
  obtain ⟨b1, hb1⟩ : ∃ b, b0.put (some d1) (.int .i64 kI) = b := ⟨_, rfl⟩
  obtain ⟨b2, hb2⟩ : ∃ b, b1.put (some d2) (.pointer (some ⟨gh, k, none⟩)) = b := ⟨_, rfl⟩
  obtain ⟨b3, hb3⟩ : ∃ b, b2.put (some d3) (β1 j) = b := ⟨_, rfl⟩
  obtain ⟨b4, hb4⟩ : ∃ b, b3.put (some d4) uy = b := ⟨_, rfl⟩
  have z0 : b0.tmps.size = n := by rw [← hb0, Act.put_size]; exact hsz
  have z1 : b1.tmps.size = n := by rw [← hb1, Act.put_size]; exact z0
  have z2 : b2.tmps.size = n := by rw [← hb2, Act.put_size]; exact z1
  have z3 : b3.tmps.size = n := by rw [← hb3, Act.put_size]; exact z2
  have g1 : ∀ s, b0.tmps.getD s undef = if d0 = s then β1 i else a1.tmps.getD s undef := fun s => by rw [← hb0]; exact Act.put_get (by rw [hsz]; exact hn0)
  have g2 : ∀ s, b1.tmps.getD s undef = if d1 = s then .int .i64 kI else b0.tmps.getD s undef := fun s => by rw [← hb1]; exact Act.put_get (by rw [z0]; exact hn1)
  have g3 : ∀ s, b2.tmps.getD s undef = if d2 = s then .pointer (some ⟨gh, k, none⟩) else b1.tmps.getD s undef := fun s => by rw [← hb2]; exact Act.put_get (by rw [z1]; exact hn2)
  have g4 : ∀ s, b3.tmps.getD s undef = if d3 = s then β1 j else b2.tmps.getD s undef := fun s => by rw [← hb3]; exact Act.put_get (by rw [z2]; exact hn3)
  have g5 : ∀ s, b4.tmps.getD s undef = if d4 = s then uy else b3.tmps.getD s undef := fun s => by rw [← hb4]; exact Act.put_get (by rw [z3]; exact hn4)
  have q0 := hS.put (Below.refl _ _) (v := ⟨.junk, ()⟩) (u := β1 i) trivial (Nat.zero_le _) hn0
  rw [hb0] at q0
  have q1 := q0.put (Below.refl _ _) (v := ⟨.junk, ()⟩) (u := .int .i64 kI) trivial (Nat.zero_le _) hn1
  rw [hb1] at q1
  have q2 := q1.put (Below.refl _ _) (v := ⟨.junk, ()⟩) (u := .pointer (some ⟨gh, k, none⟩)) trivial (Nat.zero_le _) hn2
  rw [hb2] at q2
  have q3 := q2.put (Below.refl _ _) (v := ⟨.junk, ()⟩) (u := β1 j) trivial (Nat.zero_le _) hn3
  rw [hb3] at q3
  have q4 := q3.put (Below.refl _ _) (v := ⟨.junk, ()⟩) (u := uy) trivial (Nat.zero_le _) hn4
  rw [hb4] at q4
  have q5 := q4.put (Below.refl _ _) (v := ⟨.junk, ()⟩) (u := goInt ys.length) trivial (Nat.zero_le _) hn5
  have x1 : b0.eval (.tmp si) = .int .i64 kI := by show b0.tmps.getD si undef = _; rw [g1, if_neg ne1, hiv]
  have x2 : b1.eval (.tmp d0) = β1 i := by show b1.tmps.getD d0 undef = _; rw [g2, if_neg (Ne.symm ne2), g1, if_pos rfl]
  have x3 : b1.eval (.tmp d1) = .int .i64 kI := by show b1.tmps.getD d1 undef = _; rw [g2, if_pos rfl]
  have x4 : b2.eval (.tmp d2) = .pointer (some ⟨gh, k, none⟩) := by show b2.tmps.getD d2 undef = _; rw [g3, if_pos rfl]
  have x5 : b3.eval (.tmp sb) = uy := by show b3.tmps.getD sb undef = _; rw [g4, if_neg ne6, g3, if_neg ne5, g2, if_neg ne4, g1, if_neg ne3, huy]
  have x6 : b4.eval (.tmp d3) = β1 j := by show b4.tmps.getD d3 undef = _; rw [g5, if_neg (Ne.symm ne7), g4, if_pos rfl]
  have x7 : b4.eval (.tmp d4) = uy := by show b4.tmps.getD d4 undef = _; rw [g5, if_pos rfl]
  have x0 : a1.eval (.tmp so) = β1 i := hov
  have hix : (Instr.indexAt xt (β1 i) (.int .i64 kI)).run P w2 = .ok (.pointer (some ⟨gh, k, none⟩)) w2 := by
    have := indexAt_slice (P := P) (w := w2) (k := .i64) (A := ⟨gh, 0, none⟩) (n := xs.length) (c := cap) hut hte.sizeOf hk0 (show kI < (xs.length : Nat) by omega)
    rw [Addr.add_mid, hkk, Nat.zero_add, show k * (Ty.slice (.int .u8)).size = k from Nat.mul_one _] at this
    rw [hβ]
    exact this
  have hmv : ∀ (ev : Operand → Value) (o : Oper) (x : Operand) (u : Value), o.op = .move x → ev x = u → (execOp ev o).run P w2 = .ok (.value u) w2 := fun ev o x u h hx => by
    unfold execOp; simp only [h]; rw [hx]; rfl
  refine wpList_one (u := β1 i) (w' := w2) h0g (hmv _ _ _ _ h0 x0) ?_
  rw [h0d, hb0]
  refine wpList_one (u := .int .i64 kI) (w' := w2) h1g (hmv _ _ _ _ h1 x1) ?_
  rw [h1d, hb1]
  refine wpList_one (u := .pointer (some ⟨gh, k, none⟩)) (w' := w2) h2g (by
    unfold execOp; simp only [h2]
    rw [x2, x3]
    exact run_v hix) ?_
  rw [h2d, hb2]
  refine wpList_one (u := β1 j) (w' := w2) h3g (by
    unfold execOp; simp only [h3]
    rw [x4]
    exact run_v (loadOne hlay rfl hcell)) ?_
  rw [h3d, hb3]
  refine wpList_one (u := uy) (w' := w2) h4g (hmv _ _ _ _ h4 x5) ?_
  rw [h4d, hb4]
  refine wpList_one (u := goInt ys.length) (w' := w3) h5g (copy_exec h5 x6 x7 (hcopy c5.type)) ?_
  rw [h5d]
  exact ⟨rfl, _, β1, q5, hq⟩
end
end Go.Proofs.YtbbeldmcdjjnbaaDoor
