/-
  'for x := range f' inside a walk: values that an iterator hands out, the marks that it leaves behind. No program is read here.
-/
import Derived.Test.YtbbeldmcdjjnbaaDoorAbsRun
namespace Go.Proofs.YtbbeldmcdjjnbaaDoor
open Go Go.RowKit
set_option linter.unusedSimpArgs false
set_option linter.unusedVariables false
/-- the iterator's word: it hands out these values, and writes nothing that lay there; C: blocks that it reads -/
def SeqVal (P : Program) (m : Nat) (gf : Nat) (lb : Array Value) (C : Nat → Prop) (ts : List Value) (w : World) : Prop :=
  ∀ (l : Nat) (J : Nat → World → Prop) (W : World), Below w.heap.size w W → (∀ k A B, J k A → Below A.heap.size A B → J k B) →
    (∀ k y W1, J k W1 → ts[k]? = some y → W.heap.size ≤ W1.heap.size → YieldAt Fence.wide (m - 1) P l #[y] W1 fun e W' => e = .returned (.bool true) ∧ J (k + 1) W' ∧ SameOn C W.heap.size W1 W') →
    J 0 W →
    CallsIn Fence.wide m P gf (#[.func (.yield l) #[] #[]] ++ lb) W fun e W' => (∃ v, e = .returned v) ∧ J ts.length W'
/-- the caller's law -/
theorem wp_rangeVal {P : Program} {n : Nat} {g : Operand} {p : Tmp} {assign body : Code} {Q : Exit → Act → World → Prop} {a : Act} {w : World} {gf : Nat} {lb : Array Value} (hg : a.eval g = .func (.func gf) #[] lb) (eg : ∀ args w, (callFunc gf args).run P w = .ok (.enter gf args) w)
    {C : Nat → Prop} {ts : List Value} {w0 : World} (hseq : SeqVal P (n - 1) gf lb C ts w0) (hb0 : Below w0.heap.size w0 w) (hC : ∀ k, C k → k < w.heap.size)
    (J : Nat → World → Prop) (hJ : ∀ k A B, J k A → Kept (fun g => A.heap.size ≤ g ∨ g = w.heap.size + 1) A B → J k B) (h0 : ∀ W1 : World, Below w.heap.size w W1 → W1.heap.size = w.heap.size + 2 → J 0 W1) (a1 : Value → Act)
    (hassign : ∀ (l : Nat) (x : Value) (W : World) (K : Act → World → Prop), K (a1 x) W → assign.wpIn (Fence.wide.inRound l) (n - 1 - 1) P (Exit.then K (fun _ _ _ => False)) { tmps := ((#[p] : Array Tmp).zip #[x]).foldl (fun t (p, v) => t.setIfInBounds p v) a.tmps, defers := [] } W)
    (hbody : ∀ (l k : Nat) (y : Value) (W : World), J k W → ts[k]? = some y → w.heap.size + 2 ≤ W.heap.size →
      body.wpIn (Fence.wide.inRound l) (n - 1 - 1) P (fun e _ W' => e = .normal ∧ J (k + 1) W' ∧ SameOn (fun g => C g ∨ g = w.heap.size ∨ g = w.heap.size + 1) (w.heap.size + 2) W W') (a1 y) W)
    (hdone : ∀ W : World, J ts.length W → W.heap[w.heap.size]? = some (.deferred (some [])) → Q .normal { a with defers := { target := .collected w.heap.size, args := #[] } :: a.defers } W) :
    (Code.rangeFunc g #[p] assign body).wp P Q a w := by
  refine (wpIn_wide (n := n)).1 (wpIn_rangeFunc ?_)
  intro fn hfn
  obtain ⟨rec, hrec⟩ : ∃ rec : LoopState → Option Code → Loop, rec = fun st pe => { state := st, pending := pe, fn, tmps := a.tmps, params := #[p], assign, body, defers := w.heap.size } := ⟨_, rfl⟩
  obtain ⟨W1, hW1⟩ : ∃ W1, (w.alloc (.deferred (some []))).alloc (.loop (rec .ready none)) = W1 := ⟨_, rfl⟩
  have hs1 : W1.heap.size = w.heap.size + 2 := by rw [← hW1]; simp
  have hL1 : W1.heap[w.heap.size + 1]? = some (.loop (rec .ready none)) := by
    rw [← hW1]; have := World.alloc_heap_new (w.alloc (.deferred (some []))) (.loop (rec .ready none)); rwa [World.size_alloc] at this
  have hK1 : W1.heap[w.heap.size]? = some (.deferred (some [])) := by
    rw [← hW1]; exact (Below.heap_alloc _ _ _ (by simp)).trans (World.alloc_heap_new w _)
  have hb1' : Below w.heap.size w W1 := by rw [← hW1]; exact ((Below.refl _ w).alloc (Nat.le_refl _) _).alloc (by simp) _
  have hJ1 : J 0 W1 := h0 _ hb1' hs1
  have hb1 : Below w0.heap.size w0 W1 := hb0.trans (hb1'.mono hb0.size)
  refine ⟨w.heap.size + 1, [{ target := .collected w.heap.size, args := #[] }], W1, { target := .fn (.func gf) lb, args := #[.func (.yield (w.heap.size + 1)) #[] #[]] }, W1, gf,
    #[.func (.yield (w.heap.size + 1)) #[] #[]] ++ lb, W1, ?_, ?_, ?_, ?_, (fun h => by cases h), ?_⟩
  · rw [← hW1, hrec]; exact run_enterLoop_outer _ _ _ _ _
  · simp only [resolve, hg]
    simp [go_sem]
  · intro f' hf'; trivial
  · simp [invoke, go_sem, eg]
  · refine (hseq (w.heap.size + 1) (fun k W => J k W ∧ W.heap[w.heap.size + 1]? = some (.loop (rec .ready none)) ∧ W.heap[w.heap.size]? = some (.deferred (some []))) W1 hb1 ?_ ?_ ⟨hJ1, hL1, hK1⟩).mono ?_
    · intro k A B hs hb
      have hl := (Array.getElem?_eq_some_iff.1 hs.2.1).1
      have hd := (Array.getElem?_eq_some_iff.1 hs.2.2).1
      exact ⟨hJ k _ _ hs.1 (kept_of_below hb fun k hk => .inl hk), (hb.block _ hl).trans hs.2.1, (hb.block _ hd).trans hs.2.2⟩
    · rintro k y W ⟨hj, hl, hk⟩ hy1 hsz
      have hlt : w.heap.size + 1 < W.heap.size := (Array.getElem?_eq_some_iff.1 hl).1
      have hy := run_yield (P := P) (args := #[y]) hl (by rw [hrec]; rfl)
      rw [hrec] at hy
      refine ⟨fn, _, assign, body, hy, roundIn_of_wpIn hfn ?_⟩
      have hl2 : (W.putObj (w.heap.size + 1) (.loop { rec .ready none with state := .busy })).heap[w.heap.size + 1]? = some (.loop { rec .ready none with state := .busy }) := World.putObj_heap_same hlt
      have hk2 : (W.putObj (w.heap.size + 1) (.loop { rec .ready none with state := .busy })).heap[w.heap.size]? = some (.deferred (some [])) := (World.putObj_heap_other (by omega)).trans hk
      refine hassign _ y W _ ?_
      refine ⟨_, run_beginRound hl (by rw [hrec]), ?_⟩
      have hj2 : J k (W.putObj (w.heap.size + 1) (.loop { rec .ready none with state := .busy })) := hJ k _ _ hj (kept_putObj _ (.inr rfl))
      have hp2 := grownBy_putObj' W (w.heap.size + 1) (.loop { rec .ready none with state := .busy })
      refine Go.wpIn_mono (hbody _ k y _ hj2 hy1 (Nat.le_trans (by omega) hp2.size)) ?_
      rintro e a3 W3 ⟨rfl, hj3, hk3⟩
      have hl3 : W3.heap[w.heap.size + 1]? = some (.loop { rec .ready none with state := .busy }) := (hk3.block _ (.inr (.inr rfl))).trans hl2
      have hd3 : W3.heap[w.heap.size]? = some (.deferred (some [])) := (hk3.block _ (.inr (.inl rfl))).trans hk2
      have hr := run_endRound (P := P) none hl3
      have hp3 := grownBy_putObj' W3 (w.heap.size + 1) (.loop { ({ rec .ready none with state := .busy } : Loop) with state := .ready })
      refine ⟨_, _, hr, rfl, ⟨hJ _ _ _ hj3 (kept_putObj _ (.inr rfl)), ?_, (World.putObj_heap_other (by omega)).trans hd3⟩, ?_⟩
      · rw [World.putObj_heap_same (Array.getElem?_eq_some_iff.1 hl3).1, hrec]
        rfl
      · refine ⟨?_, ?_, ?_, ?_, fun j hj => ?_⟩
        · exact (grownBy_putObj' W3 _ _).os.trans (hk3.os.trans hp2.os)
        · exact (grownBy_putObj' W3 _ _).tape.trans (hk3.tape.trans hp2.tape)
        · exact (grownBy_putObj' W3 _ _).output.trans (hk3.output.trans hp2.output)
        · exact Nat.le_trans (by rw [hs1]; exact hk3.size) (grownBy_putObj' W3 _ _).size
        · have hjl := hC j hj
          exact (World.putObj_heap_other (by omega)).trans ((hk3.block j (.inl hj)).trans (World.putObj_heap_other (by omega)))
    · rintro e W2 ⟨⟨v, rfl⟩, hj, hl, hk⟩
      exact ⟨none, _, by have := run_endLoop (P := P) hl (by rw [hrec]; simp); rw [hrec] at this; exact this, hdone _ (hJ _ _ _ hj (kept_putObj _ (.inr rfl))) ((World.putObj_heap_other (by omega)).trans hk)⟩
/-! ### marks of ranges that are over -/
def Marks (B : Nat) (w : World) : List Deferred → Prop
  | [] => True
  | d :: ds => (∃ g, d = { target := .collected g, args := #[] } ∧ B ≤ g ∧ w.heap[g]? = some (.deferred (some [])) ∧ ∀ e ∈ ds, ∀ g', e.target = .collected g' → g' ≠ g) ∧ Marks B w ds
theorem Marks.keep {B : Nat} {w w' : World} (hk : ∀ g : Nat, w.heap[g]? = some (Obj.deferred (some [])) → w'.heap[g]? = some (Obj.deferred (some []))) : ∀ {ds : List Deferred}, Marks B w ds → Marks B w' ds
  | [], _ => trivial
  | _ :: _, ⟨⟨g, h1, h2, h3, h4⟩, h⟩ => ⟨⟨g, h1, h2, hk g h3, h4⟩, Marks.keep hk h⟩
theorem Marks.mem {B : Nat} {w : World} : ∀ {ds : List Deferred} {e : Deferred}, Marks B w ds → e ∈ ds → ∃ g, e = { target := .collected g, args := #[] } ∧ B ≤ g ∧ w.heap[g]? = some (.deferred (some []))
  | d :: ds, e, ⟨⟨g, h1, h2, h3, _⟩, h⟩, he => by
    rcases List.mem_cons.1 he with rfl | he
    · exact ⟨g, h1, h2, h3⟩
    · exact Marks.mem h he
theorem Marks.shut {B g : Nat} {w : World} {o : Obj} : ∀ {ds : List Deferred}, Marks B w ds → (∀ e ∈ ds, ∀ g', e.target = .collected g' → g' ≠ g) → Marks B (w.putObj g o) ds
  | [], _, _ => trivial
  | _ :: _, ⟨⟨g1, h1, h2, h3, h4⟩, h⟩, hn => ⟨⟨g1, h1, h2, (World.putObj_heap_other (hn _ (List.mem_cons_self ..) g1 (by rw [h1]))).trans h3, h4⟩, Marks.shut h fun e he => hn e (List.mem_cons_of_mem _ he)⟩
/-- a function that ranged over functions leaves -/
theorem leaves_marks {P : Program} {K : Kn} {w0 : World} {X : Ownr} {σ : AS} {β : Nat → Value} {a : Act} {m : Nat} (hK : KnOk P X.G K) (hX : X.Ok w0) {fn : Func} {own : Option TypeId} {t : Ty} {x : t.T}
    (hd : Done K.T fn.results.toList σ own t x) (hR : own = none ∨ ∀ g, ¬ X.R g) {R : Ending → World → Prop} : ∀ (ds : List Deferred) (w : World), Seen w0 X σ β a w → Marks w0.heap.size w ds →
    (∀ w' v, Below w0.heap.size w w' → (t = .unit ∨ ResRel w' X.X w0.heap.size own t x v) → R (.returned v) w') → LeavesInM Fence.wide m P fn a.tmps R ds .returning w
  | [], w, h, _, hQ => by
    obtain ⟨v, h1, h2⟩ := done_res hK hX h hd hR
    exact ⟨v, h1, hQ w v (Below.refl _ _) h2⟩
  | d :: ds, w, h, ⟨⟨g, h1, h2, h3, h4⟩, hm⟩, hQ => by
    subst h1
    refine ⟨by simp, .inl ⟨_, _, rfl, run_takeDeferred h3, ?_⟩⟩
    exact leaves_marks hK hX hd hR ds _ (h.keepC (keepsC_putObj h3)) (hm.shut h4) fun w' v hb hr => hQ w' v ((below_putObj h3 h2).trans hb) hr
/-! ### a walk that may leave marks -/
abbrev Ownr.marked (G : World → Prop) (O : Nat → Prop) (ds : List Deferred) (Bf : Nat → Prop) : Ownr := ⟨G, O, 0, fun _ => 0, ds, none, Bf⟩
def noB : Nat → Prop := fun _ => False
def ownB (E : Owns) (β : Nat → Value) (g : Nat) : Prop := ∃ i o, Owns.get E i = some o ∧ blockOf (β i) = some g
theorem OwnRep.isCells {w : World} {O : Nat → Prop} {β : Nat → Value} {B : Nat} {bv : Value} {o : OObj} (h : OwnRep w O β B bv o) {g : Nat} (hg : blockOf bv = some g) : ∃ cs ty fz, w.heap[g]? = some (.cells cs ty fz) := by
  cases o with
  | box t x =>
    obtain ⟨g', cs, ty, rfl, _, h2, _⟩ := h
    cases hg
    exact ⟨_, _, _, h2⟩
  | buf te t xs =>
    obtain ⟨cs, _, h2, _⟩ := h
    rcases h2.2 with ⟨rfl, _⟩ | ⟨g', cap, cur, rfl, _, h5, _⟩
    · cases hg
    · cases hg
      exact ⟨_, _, _, h5⟩
  | hbox vs =>
    obtain ⟨g', cs, ty, rfl, _, h2, _⟩ := h
    cases hg
    exact ⟨_, _, _, h2⟩
section
variable {P : Program} {w0 w w' : World} {G : World → Prop} {O : Nat → Prop} {n m : Nat} {σ σ' : AS} {β β' : Nat → Value} {a a' : Act} {ds ds' : List Deferred} {Q : Exit → AS → Prop}
theorem marked_R {Bf : Nat → Prop} {g : Nat} (h : (Ownr.marked G O ds Bf).R g) : Bf g := h.elim (fun ⟨_, h, _⟩ => absurd h (Nat.not_lt_zero _)) id
theorem Sim.isCells {X : Ownr} (h : Sim w0 X n σ β a w) {g : Nat} (hg : ownB σ.E β g) : ∃ cs ty fz, w.heap[g]? = some (.cells cs ty fz) := by
  obtain ⟨i, o, h1, h2⟩ := hg
  exact (h.own i o h1).isCells h2
theorem anewM (h : Sim w0 (Ownr.marked G O ds noB) n σ β a w) : Sim w (Ownr.marked G O ds (ownB σ.E β)) n σ β a w :=
  ⟨h.sz, h.df, Kept.refl _ _, h.fr, h.own, fun i o g hi hg => .inr (.inr ⟨i, o, hi, hg⟩), h.inj, h.lt, ⟨Nat.zero_le _, fun i hi => absurd hi (Nat.not_lt_zero _)⟩, h.hb, h.hE⟩
theorem ownB_new (h : Sim w0 (Ownr.marked G O ds noB) n σ β a w) {g : Nat} (hg : ownB σ.E β g) : w0.heap.size ≤ g ∧ g < w.heap.size := by
  obtain ⟨i, o, h1, h2⟩ := hg
  exact ⟨(h.new i o g h1 h2).resolve_right fun hr => marked_R hr, ((h.own i o h1).block_lt h2).2⟩
theorem keptM (h : Sim w0 (Ownr.marked G O ds noB) n σ β a w) {R : Nat → Prop} (hR : ∀ g, R g → w0.heap.size ≤ g) (hk : Kept R w w') : Kept (Ownr.marked G O ds' noB).R w0 w' :=
  ⟨hk.os.trans h.bel.os, hk.tape.trans h.bel.tape, hk.output.trans h.bel.output, Nat.le_trans h.bel.size hk.size, fun k hkl _ =>
    (hk.block k (Nat.lt_of_lt_of_le hkl h.bel.size) fun hr => by have := hR k hr; omega).trans (h.bel.block k hkl fun hr => marked_R hr)⟩
theorem okM (hX : (Ownr.marked G O ds noB).Ok w0) (h : Sim w0 (Ownr.marked G O ds noB) n σ β a w) : (Ownr.marked G O ds' (ownB σ.E β)).Ok w :=
  ⟨fun g hg => ⟨Nat.lt_of_lt_of_le (hX.1 g hg).1 h.bel.size, fun hr => by have := (ownB_new h (marked_R hr)).1; have := (hX.1 g hg).1; omega⟩, fun g hr => (ownB_new h (marked_R hr)).2,
    fun w' hk => hX.2.2 w' (keptM h (fun g hr => (ownB_new h (marked_R hr)).1) hk)⟩
theorem backM (h : Sim w0 (Ownr.marked G O ds noB) n σ β a w) (h' : Sim w (Ownr.marked G O ds' (ownB σ.E β)) m σ' β' a' w') : Sim w0 (Ownr.marked G O ds' noB) m σ' β' a' w' :=
  ⟨h'.sz, h'.df, keptM h (fun g hr => (ownB_new h (marked_R hr)).1) h'.bel, h'.fr, h'.own, fun i o g hi hg => .inl (by
    rcases h'.new i o g hi hg with h1 | h1
    · exact Nat.le_trans h.bel.size h1
    · exact (ownB_new h (marked_R h1)).1), h'.inj, h'.lt, ⟨Nat.zero_le _, fun i hi => absurd hi (Nat.not_lt_zero _)⟩, h'.hb, h'.hE⟩
theorem marksM (h : Sim w0 (Ownr.marked G O ds noB) n σ β a w) {R : Nat → Prop} (hR : ∀ g, R g → ownB σ.E β g) (hk : Kept R w w') {es : List Deferred} (hm : Marks w0.heap.size w es) : Marks w0.heap.size w' es :=
  hm.keep fun g hg => (hk.block g (Array.getElem?_eq_some_iff.1 hg).1 fun hr => by
    obtain ⟨cs, ty, fz, h1⟩ := h.isCells (hR g hr)
    rw [hg] at h1
    cases h1).trans hg
/-- from every state that stands for σ, with marks of ranges that are over, the code comes to what Q says -/
def AWPD (P : Program) (w0 : World) (G : World → Prop) (O : Nat → Prop) (n : Nat) (c : Code) (σ : AS) (Q : Exit → AS → Prop) : Prop :=
  ∀ ds β a w, Sim w0 (Ownr.marked G O ds noB) n σ β a w → Marks w0.heap.size w ds → c.wpIn Fence.wide 0 P (fun e a' w' => ∃ σ' β' ds', Sim w0 (Ownr.marked G O ds' noB) n σ' β' a' w' ∧ Marks w0.heap.size w' ds' ∧ Q e σ') a w
theorem AWPD.of {c : Code} (hX : ∀ ds, (Ownr.marked G O ds noB).Ok w0) (h : ∀ W ds Bf, (Ownr.marked G O ds Bf).Ok W → AWP P W (Ownr.marked G O ds Bf) n c σ Q) : AWPD P w0 G O n c σ Q :=
  fun ds β a w hs hm => Go.wpIn_mono (h w ds _ (okM (hX ds) hs) β a w (anewM hs)) fun e a' w' ⟨σ', β', h1, h2⟩ => ⟨σ', β', ds, backM hs h1, marksM hs (fun g hr => marked_R hr) h1.bel hm, h2⟩
theorem AWPD.seq {x y : Code} (h : AWPD P w0 G O n x σ (thenQ (fun σ' => AWPD P w0 G O n y σ' Q) Q)) : AWPD P w0 G O n (.seq x y) σ Q :=
  fun ds β a w hs hm => wpIn_seq (Go.wpIn_mono (h ds β a w hs hm) fun e a w ⟨σ', β', ds', h1, h2, h3⟩ => by
    cases e with
    | normal => exact h3 ds' β' a w h1 h2
    | _ => exact ⟨σ', β', ds', h1, h2, h3⟩)
theorem AWPD.block {id : Nat} {c : Code} (h : AWPD P w0 G O n c σ (blockQ id Q)) : AWPD P w0 G O n (.block id c) σ Q :=
  fun ds β a w hs hm => wpIn_block (Go.wpIn_mono (h ds β a w hs hm) fun e a w ⟨σ', β', ds', h1, hm', h2⟩ => by
    cases e with
    | exit j =>
      simp only [blockQ, cond_eq_ite, Nat.beq_eq] at h2
      simp only [Exit.inBlock]
      split
      · rename_i hj; rw [if_pos hj] at h2; exact ⟨σ', β', ds', h1, hm', h2⟩
      · rename_i hj; rw [if_neg hj] at h2; exact ⟨σ', β', ds', h1, hm', h2⟩
    | _ => exact ⟨σ', β', ds', h1, hm', h2⟩)
theorem AWPD.fit {c : Code} {σ2 : AS} (hf : Fit σ σ2) (h : AWPD P w0 G O n c σ2 Q) : AWPD P w0 G O n c σ Q :=
  fun ds β a w hs hm => h ds β a w (hs.fit hf (Nat.zero_le _)) hm
theorem AWPD.loop {c : Code} {ι : Type} (S : ι → AS) (J : ι → Prop) (μ : ι → Nat) (i0 : ι) (hJ : J i0) (h0 : Fit σ (S i0))
    (round : ∀ i, J i → AWPD P w0 G O n c (S i) (thenQ (fun σ' => ∃ i', J i' ∧ μ i' < μ i ∧ Fit σ' (S i')) Q)) : AWPD P w0 G O n (.loop c) σ Q := by
  intro ds β a w hs hm
  exact wpIn_family (fun i a w => J i ∧ ∃ ds β, Sim w0 (Ownr.marked G O ds noB) n (S i) β a w ∧ Marks w0.heap.size w ds) μ i0 ⟨hJ, ds, β, hs.fit h0 (Nat.zero_le _), hm⟩ fun i a w ⟨hj, ds, β, h1, hm⟩ => Go.wpIn_mono (round i hj ds β a w h1 hm) fun e a' w' ⟨σ', β', ds', h2, hm', h3⟩ => by
    cases e with
    | normal => obtain ⟨i', hj', hlt, hf⟩ := h3; exact ⟨i', hlt, hj', ds', β', h2.fit hf (Nat.zero_le _), hm'⟩
    | _ => exact ⟨σ', β', ds', h2, hm', h3⟩
end
/-! ### the statement inside a walk -/
def handOK (K : Nat) : V → Bool
  | ⟨.optr _, p⟩ => Nat.blt p.i K
  | ⟨.hptr, x⟩ => Nat.blt x.1 K
  | ⟨.obuf _, _⟩ => false
  | ⟨.cond _, _⟩ => false
  | ⟨.hcons _ _, _⟩ => false
  | _ => true
theorem RepV.rehand {w : World} {O : Nat → Prop} {K : Nat} {β β' : Nat → Value} (hβ : ∀ i, i < K → ∀ g, blockOf (β i) = some g → blockOf (β' i) = some g) : ∀ (v : V) {u : Value}, handOK K v = true → RepV w O β v.t v.x u → RepV w O β' v.t v.x u := by
  rintro ⟨t, x⟩ u h hr
  cases t <;> first
    | exact hr
    | (cases h; done)
    | (obtain ⟨g, h1, h2⟩ := hr
       exact ⟨g, hβ _ (Nat.le_of_ble_eq_true h) g h1, h2⟩)
def nA0 : Act := { tmps := #[], defers := [] }
def fAct0 (p : Nat) (a : Act) (x : Value) : Act := { tmps := ((#[p] : Array Tmp).zip #[x]).foldl (fun t (p, v) => t.setIfInBounds p v) a.tmps, defers := [] }
def fAct1 (p sv : Nat) (a : Act) (x : Value) : Act := (fAct0 p a x).put (some sv) ((fAct0 p a x).eval (.tmp p))
theorem fAct0_tmps' (p : Nat) (a : Act) (x : Value) : (fAct0 p a x).tmps = a.tmps.setIfInBounds p x := by simp [fAct0]
theorem fAct0_get {p : Nat} {a : Act} {x : Value} (hp : p < a.tmps.size) (s : Nat) : (fAct0 p a x).tmps.getD s undef = if p = s then x else a.tmps.getD s undef := by
  rw [fAct0_tmps', Array.getD_eq_getD_getElem?, Array.getD_eq_getD_getElem?, Array.getElem?_setIfInBounds]
  split
  · rename_i h; subst h; simp [hp]
  · rfl
theorem fAct1_get {p sv : Nat} {a : Act} {x : Value} (hp : p < a.tmps.size) (hs : sv < a.tmps.size) (s : Nat) : (fAct1 p sv a x).tmps.getD s undef = if sv = s then x else if p = s then x else a.tmps.getD s undef := by
  unfold fAct1
  rw [Act.put_get (by rw [fAct0_tmps']; simpa using hs)]
  have e : (fAct0 p a x).eval (.tmp p) = x := by
    show (fAct0 p a x).tmps.getD p undef = x
    rw [fAct0_get hp, if_pos rfl]
  rw [e, fAct0_get hp]
theorem AWPD.range {P : Program} {w0 : World} {G : World → Prop} {O : Nat → Prop} {n : Nat} {σ : AS} {Q : Exit → AS → Prop} {g p sv id gf : Nat} {cap : Ty} {cx : cap.T} {body : Code} {o : Oper} (hX : ∀ ds, (Ownr.marked G O ds noB).Ok w0)
    (hg : Frame.get σ.F g = ⟨.clo gf cap, cx⟩) (eg : ∀ args w, (callFunc gf args).run P w = .ok (.enter gf args) w) (ho : o.op = .assign (.tmp p)) (hgd : o.guard = none) (hdst : o.dst = some sv) (hsv : Nat.blt sv n = true) (hp : Nat.blt p n = true)
    (N : Nat) (vals : Nat → V)
    (hseq : ∀ (w : World) (us : List Value) (O' : Nat → Prop), RepCap w O' cap cx us → ∃ (C : Nat → Prop) (ts : List Value), ts.length = N ∧ (∀ k v, ts[k]? = some v → ∀ (w' : World) (O'' : Nat → Prop) β', w.heap.size ≤ w'.heap.size → (∀ g, C g → w'.heap[g]? = w.heap[g]? ∧ ¬ O'' g) → RepV w' O'' β' (vals k).t (vals k).x v) ∧ (∀ g, C g → g < w.heap.size ∧ ¬ O' g) ∧ SeqVal P 0 gf us.toArray C ts w)
    (K : Nat) (hK : ∀ i, i < K → ∃ ob, Owns.get σ.E i = some ob ∧ ob.isBuf = false) (F : List (Nat × V)) (hF : Sub σ.F F) (hh : F.all (fun q => handOK K q.2 && !Nat.beq q.1 p) = true) (E : Nat → Owns) (nx : Nat) (hKnx : K ≤ nx) (hE0 : Fit σ ⟨F, E 0, nx⟩) (hv : ∀ k, (vals k).bound ≤ nx)
    (hbody : ∀ (W : World) (O' Bf : Nat → Prop) (fix : Nat → Nat) (l : Nat), (⟨G, O', K, fix, [], some l, Bf⟩ : Ownr).Ok W → ∀ k, k < N → AWP P W ⟨G, O', K, fix, [], some l, Bf⟩ n body ⟨(sv, vals k) :: F, E k, nx⟩ (fun e s => e = .normal ∧ Fit s ⟨[], E (k + 1), nx⟩))
    (hq : Q .normal ⟨F, E N, nx⟩) : AWPD P w0 G O n (.rangeFunc (.tmp g) #[p] (.region id #[o] false) body) σ Q := by
  intro ds β a w hs hm
  have hsv' : sv < n := by simpa using hsv
  have hp' : p < n := by simpa using hp
  have hsz : a.tmps.size = n := hs.sz
  -- the closure
  have hcl := hs.fr g
  rw [hg] at hcl
  obtain ⟨us, hu1, hu2⟩ : ∃ us, a.tmps.getD g undef = .func (.func gf) #[] (List.toArray us) ∧ RepCap w (OSet (Ownr.marked G O ds noB) σ.E β) cap cx us := hcl
  obtain ⟨C, ts, hN, hvals, hC, hsq⟩ := hseq w us _ hu2
  -- blocks
  have hBf : ∀ g, ownB σ.E β g → w0.heap.size ≤ g ∧ g < w.heap.size := fun g hg => ownB_new hs hg
  obtain ⟨fix, hfixd⟩ : ∃ fix : Nat → Nat, fix = fun i => (blockOf (β i)).getD 0 := ⟨_, rfl⟩
  have hfix : ∀ i, i < K → blockOf (β i) = some (fix i) ∧ ownB σ.E β (fix i) := fun i hi => by
    obtain ⟨ob, h1, h2⟩ := hK i hi
    have h3 : ∃ g, blockOf (β i) = some g := by
      have h4 := hs.own i ob h1
      cases ob with
      | box t x => obtain ⟨g', cs, ty, e, _⟩ := h4; rw [e]; exact ⟨_, rfl⟩
      | buf te t xs => cases h2
      | hbox vs => obtain ⟨g', cs, ty, e, _⟩ := h4; rw [e]; exact ⟨_, rfl⟩
    obtain ⟨g', h4⟩ := h3
    have h5 : fix i = g' := by rw [hfixd]; simp only [h4]; rfl
    rw [h5]
    exact ⟨h4, i, ob, h1, h4⟩
  obtain ⟨D, hD⟩ : ∃ D, D = w.heap.size := ⟨_, rfl⟩
  let OX : Nat → Prop := fun g => O g ∨ g = D + 1
  let XB : Option Nat → Ownr := fun ρ => ⟨G, OX, K, fix, [], ρ, ownB σ.E β⟩
  have hR : ∀ ρ g, (XB ρ).R g → ownB σ.E β g := fun ρ g h => by
    rcases h with ⟨i, hi, rfl⟩ | h
    · exact (hfix i hi).2
    · exact h
  have hOlt : ∀ g, O g → g < w0.heap.size := fun g hg => ((hX ds).1 g hg).1
  have hsw : w0.heap.size ≤ w.heap.size := hs.bel.size
  have chain : ∀ (ρ : Option Nat) (B W : World), B.heap.size = D + 2 → Kept (fun g => D ≤ g) w B → Kept (XB ρ).R B W → Kept (fun g => ownB σ.E β g ∨ D ≤ g) w W := fun ρ B W _ h1 h2 =>
    (h1.mono fun g h => .inr h).trans (h2.mono fun g h => .inl (hR ρ g h))
  have hXB : ∀ (ρ : Option Nat) (B : World), B.heap.size = D + 2 → Kept (fun g => D ≤ g) w B → (XB ρ).Ok B := fun ρ B hsB hkB => by
    refine ⟨fun g hg => ?_, fun g hg => ?_, fun W' hk => ?_⟩
    · have hg : O g ∨ g = D + 1 := hg
      refine ⟨?_, fun hr => ?_⟩
      · rcases hg with h | h
        · have := hOlt g h; omega
        · omega
      · have h1 := hBf g (hR ρ g hr)
        rcases hg with h | h
        · have := hOlt g h; omega
        · omega
    · have := hBf g (hR ρ g hg); omega
    · exact (hX ds).2.2 W' (keptM (ds' := ds) hs (R := fun g => ownB σ.E β g ∨ D ≤ g) (fun g h => h.elim (fun h => (hBf g h).1) fun h => by omega) (chain ρ B W' hsB hkB hk))
  let J : Nat → World → Prop := fun k W => ∃ (B : World) (βk : Nat → Value), B.heap.size = D + 2 ∧ Kept (fun g => D ≤ g) w B ∧ Sim B (XB none) 0 ⟨[], E k, nx⟩ βk nA0 W
  -- what the frame says stands
  have hfr : ∀ (k : Nat) (B W : World) (βk : Nat → Value), B.heap.size = D + 2 → Kept (fun g => D ≤ g) w B → Sim B (XB none) 0 ⟨[], E k, nx⟩ βk nA0 W → ∀ s, RepV W (OSet (XB none) (E k) βk) βk (Frame.get F s).t (Frame.get F s).x (a.tmps.getD s undef) := by
    intro k B W βk hsB hkB hsim s
    have h1 := (hs.weaken hF.get).fr s
    have hok : handOK K (Frame.get F s) = true := by
      have : ∀ (F : List (Nat × V)), F.all (fun q => handOK K q.2 && !Nat.beq q.1 p) = true → handOK K (Frame.get F s) = true := by
        intro F
        induction F with
        | nil => intro _; rfl
        | cons q F ih =>
          intro h
          rw [List.all_cons, Bool.and_eq_true, Bool.and_eq_true] at h
          obtain ⟨s', v⟩ := q
          rw [Frame.get_cons]
          split
          · exact h.1.1
          · exact ih h.2
      exact this F hh
    have h2 := RepV.rehand (β' := βk) (fun i hi g hg => by
      have h3 := (hfix i hi).1
      rw [hg] at h3
      rw [(hsim.fix.2 i hi).1]
      exact h3.symm ▸ rfl) (Frame.get F s) hok h1
    refine RepV.keep ⟨?_, fun g hgl hgo => ?_, fun g hgl hgo => ?_⟩ _ _ _ h2
    · have := hsim.bel.size; omega
    · refine (hsim.bel.block g (by omega) fun hr => hgo (.inr (hR none g hr))).trans (hkB.block g hgl fun h => by omega)
    · rcases hgo with h3 | ⟨i, ob, h3, h4⟩
      · have h3 : O g ∨ g = D + 1 := h3
        rcases h3 with h3 | h3
        · exact .inl h3
        · omega
      · rcases hsim.new i ob g h3 h4 with h5 | h5
        · omega
        · exact .inr (hR none g h5)
  have h0 : Sim w0 (Ownr.marked G O ds noB) n ⟨F, E 0, nx⟩ β a w := hs.fit hE0 (Nat.zero_le _)
  have hE0s : ∀ i ob, Owns.get (E 0) i = some ob → Owns.get σ.E i = some ob := hE0.e.get
  refine wpIn_wide.2 (wp_rangeVal (n := 0) (w0 := w) (C := C) hu1 eg hsq (Below.refl _ _) (fun k hk => (hC k hk).1) J ?_ ?_ (fAct1 p sv a) ?_ ?_ ?_)
  · rintro k A B' ⟨B, βk, h1, h2, h3⟩ hk
    obtain ⟨B2, e1, e2, e3⟩ := h3.outside (hXB none B h1 h2) (I := fun g => g = D + 1) (fun g h => .inr h) (C := B') ⟨hk.os, hk.tape, hk.output, hk.size, fun q hq hn => hk.block q hq fun h => h.elim (fun h => by omega) fun h => hn (by rw [h, hD])⟩
    exact ⟨B2, βk, e1.trans h1, h2.trans (e2.mono fun g h => by have h : g = D + 1 := h; show D ≤ g; omega), e3⟩
  · intro W1 hb1 hs1
    refine ⟨W1, β, by omega, kept_of_below hb1 fun k hk => by rw [hD]; exact hk, rfl, rfl, Kept.refl _ _, fun _ => trivial, fun i ob hi => ?_, fun i ob g hi hg => .inr (.inr ⟨i, ob, hE0s i ob hi, hg⟩), h0.inj, h0.lt, ⟨hKnx, fun i hi => ⟨(hfix i hi).1, fun ob hob => ?_⟩⟩, fun _ => Nat.zero_le _, h0.hE⟩
    · refine (h0.own i ob hi).keep ⟨by omega, fun g hgl _ => hb1.block g hgl, fun g hgl hgo => ?_⟩ fun g hg => hb1.block g ((h0.own i ob hi).block_lt hg).2
      rcases hgo with h3 | h3
      · have h3 : O g ∨ g = D + 1 := h3
        rcases h3 with h3 | h3
        · exact .inl h3
        · omega
      · exact .inr h3
    · obtain ⟨ob', h1, h2⟩ := hK i hi
      have h3 := hE0s i ob hob
      rw [h1] at h3
      cases h3
      exact h2
  · intro l x W K' hK'
    refine wpIn_region_list ?_
    have hmv : wpListIn (wideR (some l)) 0 P #[o] (Exit.then K' (fun _ _ _ => False)) [o] (fAct0 p a x) W := by
      refine wpListIn_move (.inr ho) hgd ?_
      rw [hdst]
      exact hK'
    exact hmv
  · rintro l k y W ⟨B, βk, h1, h2, h3⟩ hy hsz2
    have hkN : k < N := by
      have := (List.getElem?_eq_some_iff.1 hy).1
      omega
    have hb := hbody B OX (ownB σ.E β) fix l (hXB (some l) B h1 h2) k hkN
    have hsim : Sim B (XB (some l)) n ⟨(sv, vals k) :: F, E k, nx⟩ βk (fAct1 p sv a y) W := by
      refine Sim.act (X' := XB (some l)) h3 rfl rfl rfl ?_ rfl (fun s => ?_) ?_
      · unfold fAct1
        rw [Act.put_size, fAct0_tmps']
        simpa using hsz
      · rw [fAct1_get (by omega) (by omega), Frame.get_cons]
        by_cases e1 : sv = s
        · rw [if_pos e1, if_pos e1]
          refine hvals k y hy W _ βk (by have := h3.bel.size; omega) fun q hq => ⟨?_, ?_⟩
          · exact (h3.bel.block q (by have := (hC q hq).1; omega) fun hr => (hC q hq).2 (.inr (hR none q hr))).trans (h2.block q (hC q hq).1 fun h => by have := (hC q hq).1; omega)
          · rintro (h | ⟨i, ob, h8, h9⟩)
            · have h : O q ∨ q = D + 1 := h
              rcases h with h | h
              · exact (hC q hq).2 (.inl h)
              · have := (hC q hq).1; omega
            · rcases h3.new i ob q h8 h9 with h | h
              · have := (hC q hq).1; omega
              · exact (hC q hq).2 (.inr (hR none q h))
        · rw [if_neg e1, if_neg e1]
          by_cases e2 : p = s
          · have hj : Frame.get F s = ⟨.junk, ()⟩ := by
              have : ∀ (F : List (Nat × V)), F.all (fun q => handOK K q.2 && !Nat.beq q.1 p) = true → Frame.get F s = ⟨.junk, ()⟩ := by
                intro F
                induction F with
                | nil => intro _; rfl
                | cons q F ih =>
                  intro h
                  rw [List.all_cons, Bool.and_eq_true, Bool.and_eq_true, Bool.not_eq_true'] at h
                  obtain ⟨s', v⟩ := q
                  rw [Frame.get_cons, if_neg (fun e => by
                    have h5 : Nat.beq s' p = false := h.1.2
                    rw [e, ← e2] at h5
                    simp at h5)]
                  exact ih h.2
              exact this F hh
            rw [hj]
            trivial
          · rw [if_neg e2]
            exact hfr k B W βk h1 h2 h3 s
      · have hbF := hE0.bf
        show bndB nx ((sv, vals k) :: F) = true
        simp only [bndB, Bool.and_eq_true]
        exact ⟨Nat.ble_eq_true_of_le (hv k), hbF⟩
    refine Go.wpIn_mono (hb βk _ W hsim) ?_
    rintro e a' W' ⟨σ', β', h4, rfl, h5⟩
    have h6 := h4.fit h5 hKnx
    refine ⟨rfl, ⟨B, β', h1, h2, Sim.act (X' := XB none) (a' := nA0) (m := 0) (F := []) h6 rfl rfl rfl rfl rfl (fun s => trivial) rfl⟩, ?_⟩
    refine ⟨h4.bel.os.trans h3.bel.os.symm, h4.bel.tape.trans h3.bel.tape.symm, h4.bel.output.trans h3.bel.output.symm, by have := h4.bel.size; omega, fun q hq => ?_⟩
    have hq2 : q < B.heap.size ∧ ¬ ownB σ.E β q := by
      rcases hq with h | h | h
      · exact ⟨by have := (hC q h).1; omega, fun hr => (hC q h).2 (.inr hr)⟩
      · exact ⟨by omega, fun hr => by have := hBf q hr; omega⟩
      · exact ⟨by omega, fun hr => by have := hBf q hr; omega⟩
    exact (h4.bel.block q hq2.1 fun hr => hq2.2 (hR (some l) q hr)).trans (h3.bel.block q hq2.1 fun hr => hq2.2 (hR none q hr)).symm
  · rintro W ⟨B, βk, h1, h2, h3⟩ hdef
    rw [hN] at h3
    have hkw : Kept (fun g => ownB σ.E β g ∨ D ≤ g) w W := chain none B W h1 h2 h3.bel
    refine ⟨⟨F, E N, nx⟩, βk, { target := .collected w.heap.size, args := #[] } :: ds, ⟨hsz, by show _ :: a.defers = _ :: ds; rw [hs.df], ?_, fun s => ?_, fun i ob hi => ?_, fun i ob g hi hg => .inl ?_, h3.inj, h3.lt, ⟨Nat.zero_le _, fun i hi => absurd hi (Nat.not_lt_zero _)⟩, fun s => bndB_get hE0.bf s, h3.hE⟩, ?_, hq⟩
    · exact keptM hs (fun g h => h.elim (fun h => (hBf g h).1) fun h => by omega) hkw
    · exact RepV.keep ⟨Nat.le_refl _, fun _ _ _ => rfl, fun g _ hgo => hgo.imp (fun h => .inl h) fun h => h⟩ _ _ _ (hfr N B W βk h1 h2 h3 s)
    · exact (h3.own i ob hi).keep ⟨Nat.le_refl _, fun _ _ _ => rfl, fun g _ hgo => hgo.imp (fun h => .inl h) fun h => h⟩ fun _ _ => rfl
    · rcases h3.new i ob g hi hg with h | h
      · omega
      · exact (hBf g (hR none g h)).1
    · refine ⟨⟨w.heap.size, rfl, hsw, hdef, fun e he g' hg' e2 => ?_⟩, hm.keep fun g hgm => (hkw.block g (Array.getElem?_eq_some_iff.1 hgm).1 fun h => ?_).trans hgm⟩
      · obtain ⟨g1, e1, _, e3⟩ := hm.mem he
        rw [e1] at hg'
        cases hg'
        have := (Array.getElem?_eq_some_iff.1 e3).1
        omega
      · rcases h with h | h
        · obtain ⟨cs, ty, fz, h4⟩ := hs.isCells h
          rw [hgm] at h4
          cases h4
        · have := (Array.getElem?_eq_some_iff.1 hgm).1
          omega
/-- a contract out of such a walk -/
theorem ctr_of_awpd {P : Program} {K : Kn} {n : Nat} {G : World → Prop} (hK : KnOk P G K) {f : FuncId} {fn : Func} {c : Code} {ctr : Ctr} (hf : P.funcs[f]? = some fn) (hb : fn.body = some c) (hn : fn.ntmps = n)
    (hen : ∀ (as : Array Value) (w : World), (callFunc f as).run P w = .ok (.enter f as) w) (hd : allData ctr.args = true) (hlen : ctr.args.length ≤ n) (hnu : ctr.res = .unit → False) (hown : ctr.own = none)
    (h : ∀ (w0 : World) (O : Nat → Prop), (∀ ds, (Ownr.marked G O ds noB).Ok w0) → ∀ xs : Args ctr.args, allP (ctr.pre xs) → AWPD P w0 G O n c (initS ctr.args xs) (fun e σ => (e = .normal ∨ e = .ret) ∧ Done K.T fn.results.toList σ none ctr.res (ctr.out xs))) : CtrOk P G f ctr := by
  refine ⟨hen, fun w O xs vs hO hrep hp hG => ?_⟩
  have hvl := repA_len _ _ _ hrep
  have hX : ∀ ds, (Ownr.marked G O ds noB).Ok w := fun ds => ⟨fun g hg => ⟨hO g hg, fun h => marked_R h⟩, fun g hg => (marked_R hg).elim, fun w' hk => hK.st w w' hG (hk.below fun g h => marked_R h)⟩
  refine (callsIn_wide (n := 0)).1 (callsIn_of_wp_marks hf hb trivial ?_ rfl)
  have hsim : Sim w (Ownr.marked G O [] noB) n (initS ctr.args xs) (fun _ => undef) { tmps := vs.toArray ++ Array.replicate (fn.ntmps - vs.toArray.size) undef, defers := [] } w := by
    have hE : OSet (Ownr.marked G O [] noB) (initS ctr.args xs).E (fun _ => undef) = O := by
      funext g
      apply propext
      constructor
      · rintro (h | ⟨i, o, h, _⟩)
        · exact h
        · cases h
      · exact fun h => .inl h
    refine ⟨by simp [hn, hvl]; omega, rfl, Kept.refl _ _, fun s => ?_, fun i o h => (by cases h), fun i o g h => (by cases h), fun i j oi oj h => (by cases h), fun i o h => (by cases h), ⟨Nat.zero_le _, fun i h => absurd h (Nat.not_lt_zero _)⟩, fun s => ?_, fun i o h => (by cases h)⟩
    · rw [hE]
      have := initF_rep (β := fun _ => undef) ctr.args xs vs [] (List.replicate (fn.ntmps - vs.length) undef) hd hrep s
      simp only [List.nil_append, List.length_nil] at this
      have e : (vs.toArray ++ Array.replicate (fn.ntmps - vs.toArray.size) undef) = (vs ++ List.replicate (fn.ntmps - vs.length) undef).toArray := by simp
      show RepV w O _ _ _ ((vs.toArray ++ Array.replicate (fn.ntmps - vs.toArray.size) undef).getD s undef)
      rw [e]
      exact this
    · show (Frame.get (initF ctr.args xs 0) s).bound ≤ 0
      rw [initF_bound _ _ _ _ hd]
      exact Nat.le_refl _
  refine Go.wpIn_mono (h w O hX xs hp [] _ _ _ hsim trivial) ?_
  rintro e a' w' ⟨σ', β', ds', h1, hm, h2, h3⟩
  have hleave : LeavesInM Fence.wide 0 P fn a'.tmps (fun e w' => ∃ v, e = .returned v ∧ Below w.heap.size w w' ∧ ResRel w' O w.heap.size ctr.own ctr.res (ctr.out xs) v) a'.defers .returning w' := by
    rw [h1.df]
    refine leaves_marks (X := Ownr.marked G O ds' noB) (K := K) hK (hX ds') h3 (.inl rfl) ds' w' h1.seen hm fun w2 v hb2 hr => ⟨v, rfl, (h1.bel.below fun g h => marked_R h).trans hb2, ?_⟩
    rw [hown]
    exact hr.resolve_left hnu
  rcases h2 with rfl | rfl
  · exact hleave
  · exact hleave
end Go.Proofs.YtbbeldmcdjjnbaaDoor
