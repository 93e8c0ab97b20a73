/-
  Plain states: slots with typed plain values, variables and slices of the call's own; how an activation and a world stand for one; how that goes on when a slot is written, when something of the call's own is made, is written, is given away. No program is read here.
-/
import Derived.Test.YtbbeldmcdjjnbaaDoorAbsTy
import Derived.Laws.AppendOwn
namespace Go.Proofs.YtbbeldmcdjjnbaaDoor
open Go Go.RowKit
set_option linter.unusedSimpArgs false
set_option linter.unusedVariables false

abbrev Frame := List (Nat × V)
def Frame.get : List (Nat × V) → Nat → V
  | [], _ => ⟨.junk, ()⟩
  | (s, v) :: r, t => bif Nat.beq s t then v else Frame.get r t
inductive OObj where
  | box (t : Ty) (x : t.T)
  | buf (te : TypeId) (t : Ty) (xs : List t.T)
  | hbox (vs : List V)
def OObj.isBuf : OObj → Bool
  | .box _ _ => false
  | .buf _ _ _ => true
  | .hbox _ => false
abbrev Owns := List (Nat × Option OObj)
def Owns.get : List (Nat × Option OObj) → Nat → Option OObj
  | [], _ => none
  | (i, o) :: r, j => bif Nat.beq i j then o else Owns.get r j
structure AS where
  F : Frame
  E : Owns
  nx : Nat

def bnd : (t : Ty) → t.T → Nat
  | .optr _, p => p.i + 1
  | .obuf _, i => i + 1
  | .cond t, x => bnd t x.2
  | .hptr, x => x.1 + 1
  | .hcons a b, x => max (bnd a x.1) (bnd b x.2)
  | _, _ => 0
def V.bound (v : V) : Nat := bnd v.t v.x
/-- what lies outside: X: what others own; the first K: variables that were handed in to be written, fix: their blocks -/
structure Ownr where
  G : World → Prop
  X : Nat → Prop
  K : Nat
  fix : Nat → Nat
  D : List Deferred := []
  ρ : Option Nat := none
  B : Nat → Prop := fun _ => False
/-- old blocks that may be written: of the variables that were handed in, and others that the call owns -/
def Ownr.R (X : Ownr) (g : Nat) : Prop := (∃ i, i < X.K ∧ X.fix i = g) ∨ X.B g
def Ownr.plain (G : World → Prop) (O : Nat → Prop) : Ownr := ⟨G, O, 0, fun _ => 0, [], none, fun _ => False⟩
def Ownr.one (G : World → Prop) (O : Nat → Prop) (g : Nat) : Ownr := ⟨G, O, 1, fun _ => g, [], none, fun _ => False⟩
theorem Ownr.plain_noR (G : World → Prop) (O : Nat → Prop) : ∀ g, ¬ (Ownr.plain G O).R g := fun g h => h.elim (fun ⟨i, h, _⟩ => absurd h (Nat.not_lt_zero _)) id
theorem Ownr.one_R (G : World → Prop) (O : Nat → Prop) (g : Nat) : ∀ h, (Ownr.one G O g).R h ↔ h = g := fun h => ⟨fun hh => hh.elim (fun ⟨i, _, e⟩ => e.symm) False.elim, fun e => .inl ⟨0, Nat.lt_succ_self 0, e.symm⟩⟩
instance : CoeFun Ownr (fun _ => Nat → Prop) := ⟨Ownr.X⟩
/-- what lay there lies there, but for what was handed in -/
structure Kept (R : Nat → Prop) (w w' : World) : Prop where
  os : w'.os = w.os
  tape : w'.tape = w.tape
  output : w'.output = w.output
  size : w.heap.size ≤ w'.heap.size
  block : ∀ k, k < w.heap.size → ¬ R k → w'.heap[k]? = w.heap[k]?
/-- G: what holds of the world throughout -/
def Ownr.Ok (X : Ownr) (w0 : World) : Prop := (∀ g, X g → g < w0.heap.size ∧ ¬ X.R g) ∧ (∀ g, X.R g → g < w0.heap.size) ∧ ∀ w, Kept X.R w0 w → X.G w
theorem Kept.then {R : Nat → Prop} {a b c : World} (h : Kept R a b) (k : Below b.heap.size b c) : Kept R a c :=
  ⟨k.os.trans h.os, k.tape.trans h.tape, k.output.trans h.output, Nat.le_trans h.size k.size, fun i hi hr => (k.block i (Nat.lt_of_lt_of_le hi h.size)).trans (h.block i hi hr)⟩
theorem Kept.below {R : Nat → Prop} {a b : World} (h : Kept R a b) (hR : ∀ g, ¬ R g) : Below a.heap.size a b := ⟨h.os, h.tape, h.output, h.size, fun k hk => h.block k hk (hR k)⟩
theorem Kept.grown {R : Nat → Prop} {a b c : World} {o : Option Nat} (h : Kept R a b) (hg : b.grownBy c o) (hn : ∀ g, o = some g → a.heap.size ≤ g ∨ R g) : Kept R a c :=
  ⟨hg.os.trans h.os, hg.tape.trans h.tape, hg.output.trans h.output, Nat.le_trans h.size hg.size, fun k hk hr => (hg.block k (Nat.lt_of_lt_of_le hk h.size) fun e => by
    rcases hn k e.symm with h1 | h1
    · omega
    · exact hr h1).trans (h.block k hk hr)⟩
theorem Kept.refl (R : Nat → Prop) (w : World) : Kept R w w := ⟨rfl, rfl, rfl, Nat.le_refl _, fun _ _ _ => rfl⟩
def OSet (X : Ownr) (E : Owns) (β : Nat → Value) (g : Nat) : Prop := X g ∨ ∃ i o, Owns.get E i = some o ∧ blockOf (β i) = some g
/-- cells of a variable that holds handles: one by one -/
def RepH (w : World) (O : Nat → Prop) (β : Nat → Value) : List V → List Value → Prop
  | [], cs => cs = []
  | v :: r, cs => ∃ u s, cs = u :: s ∧ u.oneCell' = true ∧ RepV w O β v.t v.x u ∧ RepH w O β r s
def OObj.under (o : OObj) (k : Nat) : Prop := ∀ vs, o = .hbox vs → ∀ v, v ∈ vs → v.bound ≤ k
def OwnRep (w : World) (O : Nat → Prop) (β : Nat → Value) (B : Nat) (bv : Value) : OObj → Prop
  | .box t x => ∃ g cs ty, bv = .pointer (some ⟨g, 0, none⟩) ∧ B ≤ g ∧ w.heap[g]? = some (.cells (List.toArray cs) ty (0, 0)) ∧ RepC w O t x cs
  | .buf te t xs => ∃ cs, RepL (RepC w O t) xs cs ∧ w.ownsRow B te t.size bv xs.length cs ∧ 0 < t.size
  | .hbox vs => ∃ g cs ty, bv = .pointer (some ⟨g, 0, none⟩) ∧ B ≤ g ∧ w.heap[g]? = some (.cells (List.toArray cs) ty (0, 0)) ∧ RepH w O β vs cs
structure Sim (w0 : World) (X : Ownr) (n : Nat) (σ : AS) (β : Nat → Value) (a : Act) (w : World) : Prop where
  sz : a.tmps.size = n
  df : a.defers = X.D
  bel : Kept X.R w0 w
  fr : ∀ s, RepV w (OSet X σ.E β) β (Frame.get σ.F s).t (Frame.get σ.F s).x (a.tmps.getD s undef)
  own : ∀ i o, Owns.get σ.E i = some o → OwnRep w (OSet X σ.E β) β 0 (β i) o
  new : ∀ i o g, Owns.get σ.E i = some o → blockOf (β i) = some g → w0.heap.size ≤ g ∨ X.R g
  inj : ∀ i j oi oj, Owns.get σ.E i = some oi → Owns.get σ.E j = some oj → i ≠ j → ∀ g, blockOf (β i) = some g → blockOf (β j) ≠ some g
  lt : ∀ i o, Owns.get σ.E i = some o → i < σ.nx
  fix : X.K ≤ σ.nx ∧ ∀ i, i < X.K → blockOf (β i) = some (X.fix i) ∧ ∀ o, Owns.get σ.E i = some o → o.isBuf = false
  hb : ∀ s, (Frame.get σ.F s).bound ≤ σ.nx
  hE : ∀ i o, Owns.get σ.E i = some o → o.under σ.nx

theorem Frame.get_cons (s : Nat) (v : V) (r : Frame) (t : Nat) : Frame.get ((s, v) :: r) t = if s = t then v else Frame.get r t := by
  simp only [Frame.get, cond_eq_ite, Nat.beq_eq]
theorem Owns.get_cons (i : Nat) (o : Option OObj) (r : Owns) (j : Nat) : Owns.get ((i, o) :: r) j = if i = j then o else Owns.get r j := by
  simp only [Owns.get, cond_eq_ite, Nat.beq_eq]

section
variable {w w' : World} {O O' : Nat → Prop} {β : Nat → Value}
theorem RepH.keep (hk : Keeps w w' O O') : ∀ {vs : List V} {cs : List Value}, RepH w O β vs cs → RepH w' O' β vs cs
  | [], _, h => h
  | v :: r, _, ⟨u, s, h1, h2, h3, h4⟩ => ⟨u, s, h1, h2, RepV.keep hk _ _ _ h3, RepH.keep hk h4⟩
theorem OwnRep.block_lt {B : Nat} {bv : Value} {o : OObj} (h : OwnRep w O β B bv o) {g : Nat} (hg : blockOf bv = some g) : B ≤ g ∧ g < w.heap.size := by
  cases o with
  | box t x =>
    obtain ⟨g', cs, ty, rfl, h1, h2, _⟩ := h
    simp [blockOf] at hg
    subst hg
    exact ⟨h1, (Array.getElem?_eq_some_iff.1 h2).1⟩
  | buf te t xs =>
    obtain ⟨cs, _, h2, _⟩ := h
    rcases h2.2 with ⟨rfl, _⟩ | ⟨g', cap, cur, rfl, h1, h2, _⟩
    · simp [blockOf] at hg
    · simp [blockOf] at hg
      subst hg
      exact ⟨h1, (Array.getElem?_eq_some_iff.1 h2).1⟩
  | hbox vs =>
    obtain ⟨g', cs, ty, rfl, h1, h2, _⟩ := h
    simp [blockOf] at hg
    subst hg
    exact ⟨h1, (Array.getElem?_eq_some_iff.1 h2).1⟩
theorem OwnRep.keep {B : Nat} {bv : Value} {o : OObj} (h : OwnRep w O β B bv o) (hk : Keeps w w' O O') (hb : ∀ g, blockOf bv = some g → w'.heap[g]? = w.heap[g]?) : OwnRep w' O' β B bv o := by
  cases o with
  | box t x =>
    obtain ⟨g', cs, ty, rfl, h1, h2, h3⟩ := h
    exact ⟨g', cs, ty, rfl, h1, (hb g' rfl).trans h2, RepC.keep hk _ _ _ h3⟩
  | buf te t xs =>
    obtain ⟨cs, h1, h2, h3⟩ := h
    refine ⟨cs, h1.mono fun x _ c => RepC.keep hk _ _ _, ⟨h2.1, ?_⟩, h3⟩
    rcases h2.2 with h4 | ⟨g', cap, cur, rfl, h4, h5, h6⟩
    · exact .inl h4
    · exact .inr ⟨g', cap, cur, rfl, h4, (hb g' rfl).trans h5, h6⟩
  | hbox vs =>
    obtain ⟨g', cs, ty, rfl, h1, h2, h3⟩ := h
    exact ⟨g', cs, ty, rfl, h1, (hb g' rfl).trans h2, h3.keep hk⟩
end

section
variable {w0 : World} {X : Ownr} {n : Nat} {σ : AS} {β : Nat → Value} {a : Act} {w w' : World}

theorem Act.put_size (a : Act) (d : Option Tmp) (v : Value) : (a.put d v).tmps.size = a.tmps.size := by
  cases d <;> simp [Act.put]
theorem Act.put_defers (a : Act) (d : Option Tmp) (v : Value) : (a.put d v).defers = a.defers := by
  cases d <;> rfl
theorem Act.put_get {a : Act} {d s : Nat} {v : Value} (hd : d < a.tmps.size) : (a.put (some d) v).tmps.getD s undef = if d = s then v else a.tmps.getD s undef := by
  by_cases h : d = s
  · subst h
    rw [if_pos rfl]
    unfold Act.put
    simp [Array.getD_eq_getD_getElem?, Array.getElem?_setIfInBounds, hd]
  · rw [if_neg h]
    unfold Act.put
    simp [Array.getD_eq_getD_getElem?, Array.getElem?_setIfInBounds, h]

/-- a slot is written; new memory may have come -/
theorem Sim.put (h : Sim w0 X n σ β a w) (hk : Below w.heap.size w w') {v : V} {u : Value} (hr : RepV w' (OSet X σ.E β) β v.t v.x u) (hb : v.bound ≤ σ.nx) {d : Nat} (hd : d < n) :
    Sim w0 X n { σ with F := (d, v) :: σ.F } β (a.put (some d) u) w' where
  sz := by rw [Act.put_size]; exact h.sz
  df := by rw [Act.put_defers]; exact h.df
  bel := h.bel.then hk
  new := h.new
  fr := fun s => by
    rw [Act.put_get (by rw [h.sz]; exact hd), Frame.get_cons]
    by_cases hs : d = s
    · rw [if_pos hs, if_pos hs]; exact hr
    · rw [if_neg hs, if_neg hs]; exact RepV.keep (.of_below hk fun _ _ h => h) _ _ _ (h.fr s)
  own := fun i o ho => (h.own i o ho).keep (.of_below hk fun _ _ h => h) fun g hg => hk.block g ((h.own i o ho).block_lt hg).2
  inj := h.inj
  lt := h.lt
  fix := h.fix
  hb := fun s => by
    rw [Frame.get_cons]
    by_cases hs : d = s
    · rw [if_pos hs]; exact hb
    · rw [if_neg hs]; exact h.hb s
  hE := h.hE

theorem update_ne {β : Nat → Value} {k i : Nat} {v : Value} (h : i ≠ k) : (fun j => if j = k then v else β j) i = β i := by simp [h]
theorem RepV.update {w : World} {O : Nat → Prop} {β : Nat → Value} {k : Nat} {bv : Value} : ∀ (t : Ty) (x : t.T) (v : Value), bnd t x ≤ k → RepV w O β t x v → RepV w O (fun j => if j = k then bv else β j) t x v := by
  intro t
  induction t with
  | optr t _ =>
    rintro x v hb ⟨g, h1, h2⟩
    have : x.i ≠ k := by simp [bnd] at hb; omega
    exact ⟨g, by simp [this, h1], h2⟩
  | obuf t _ =>
    intro x v
    change Nat at x
    intro hb h
    have hb' : x + 1 ≤ k := hb
    have : x ≠ k := by omega
    have h' : v = β x := h
    show v = if x = k then bv else β x
    rw [if_neg this, h']
  | cond t ih => intro x v hb h; exact ⟨fun hc => ih _ _ hb (h.1 hc), h.2⟩
  | hptr =>
    rintro x v hb ⟨g, h1, h2⟩
    have : x.1 ≠ k := by simp [bnd] at hb; omega
    exact ⟨g, by simp [this, h1], h2⟩
  | hcons a b iha ihb =>
    rintro x v hb ⟨u, s, h1, h2, h3, h4⟩
    have hb' : max (bnd a x.1) (bnd b x.2) ≤ k := hb
    exact ⟨u, s, h1, h2, iha _ _ (by omega) h3, ihb _ _ (by omega) h4⟩
  | _ => intro x v hb h; exact h
theorem RepH.update {w : World} {O : Nat → Prop} {β : Nat → Value} {k : Nat} {bv : Value} : ∀ {vs : List V} {cs : List Value}, (∀ v, v ∈ vs → v.bound ≤ k) → RepH w O β vs cs → RepH w O (fun j => if j = k then bv else β j) vs cs
  | [], _, _, h => h
  | v :: r, _, hb, ⟨u, s, h1, h2, h3, h4⟩ => ⟨u, s, h1, h2, RepV.update _ _ _ (hb v (by simp)) h3, RepH.update (fun y hy => hb y (by simp [hy])) h4⟩
theorem OwnRep.update {w : World} {O : Nat → Prop} {β : Nat → Value} {k B : Nat} {bv b' : Value} {o : OObj} (hb : o.under k) (h : OwnRep w O β B b' o) : OwnRep w O (fun j => if j = k then bv else β j) B b' o := by
  cases o with
  | box t x => exact h
  | buf te t xs => exact h
  | hbox vs =>
    obtain ⟨g', cs, ty, e, h1, h2, h3⟩ := h
    exact ⟨g', cs, ty, e, h1, h2, h3.update (hb vs rfl)⟩

/-- the call's own set when something is made, or the i-th is made anew as the k-th -/
theorem OSet.new {E : Owns} {k : Nat} {o : OObj} {bv : Value} (hlt : ∀ i o, Owns.get E i = some o → i < k) (g : Nat) :
    OSet X ((k, some o) :: E) (fun j => if j = k then bv else β j) g ↔ OSet X E β g ∨ blockOf bv = some g := by
  unfold OSet
  constructor
  · rintro (h | ⟨i, oi, h1, h2⟩)
    · exact .inl (.inl h)
    · rw [Owns.get_cons] at h1
      by_cases hi : k = i
      · subst hi; simp at h2; exact .inr h2
      · rw [if_neg hi] at h1
        rw [update_ne (Ne.symm hi)] at h2
        exact .inl (.inr ⟨i, oi, h1, h2⟩)
  · rintro ((h | ⟨i, oi, h1, h2⟩) | h)
    · exact .inl h
    · have := hlt _ _ h1
      exact .inr ⟨i, oi, by rw [Owns.get_cons, if_neg (by omega)]; exact h1, by rw [update_ne (by omega)]; exact h2⟩
    · exact .inr ⟨k, o, by rw [Owns.get_cons, if_pos rfl], by simp [h]⟩

/-- something of the call's own is made, in new memory or in none -/
theorem Sim.make (h : Sim w0 X n σ β a w) (hX : X.Ok w0) (hk : Below w.heap.size w w') {bv : Value} {o : OObj}
    (hr : ∀ O β', (∀ g, O g → OSet X σ.E β g ∨ blockOf bv = some g) → OwnRep w' O β' 0 bv o) (hnew : ∀ g, blockOf bv = some g → w.heap.size ≤ g) {v : V} {u : Value}
    (hv : ∀ O β', β' σ.nx = bv → RepV w' O β' v.t v.x u) (hb : v.bound ≤ σ.nx + 1) {d : Nat} (hd : d < n) (hu : o.under (σ.nx + 1) := by exact fun _ e => by cases e) :
    ∃ β', Sim w0 X n { F := (d, v) :: σ.F, E := (σ.nx, some o) :: σ.E, nx := σ.nx + 1 } β' (a.put (some d) u) w' := by
  refine ⟨fun j => if j = σ.nx then bv else β j, ?_⟩
  have hO := fun g => OSet.new (X := X) (β := β) (bv := bv) (o := o) h.lt g
  have hkeep : Keeps w w' (OSet X σ.E β) (OSet X ((σ.nx, some o) :: σ.E) (fun j => if j = σ.nx then bv else β j)) :=
    .of_below hk fun g hg hg' => by
      rcases (hO g).1 hg' with h1 | h1
      · exact h1
      · have := hnew g h1; omega
  refine ⟨?_, ?_, h.bel.then hk, ?_, ?_, ?_, ?_, ?_, ?_, ?_, ?_⟩
  · rw [Act.put_size]; exact h.sz
  · rw [Act.put_defers]; exact h.df
  · intro s
    rw [Act.put_get (by rw [h.sz]; exact hd)]
    show RepV _ _ _ (Frame.get ((d, v) :: σ.F) s).t _ _
    rw [Frame.get_cons]
    by_cases hs : d = s
    · rw [if_pos hs, if_pos hs]; exact hv _ _ (by simp)
    · rw [if_neg hs, if_neg hs]; exact RepV.update _ _ _ (h.hb s) (RepV.keep hkeep _ _ _ (h.fr s))
  · intro i oi hi
    rw [show Owns.get ((σ.nx, some o) :: σ.E) i = _ from Owns.get_cons ..] at hi
    by_cases hs : σ.nx = i
    · subst hs
      rw [if_pos rfl] at hi
      cases hi
      show OwnRep _ _ _ _ (if σ.nx = σ.nx then bv else _) _
      rw [if_pos rfl]
      exact hr _ _ fun g hg' => (hO g).1 hg'
    · rw [if_neg hs] at hi
      show OwnRep _ _ _ _ (if i = σ.nx then bv else _) _
      rw [if_neg (Ne.symm hs)]
      exact ((h.own i oi hi).keep hkeep fun g hg => hk.block g ((h.own i oi hi).block_lt hg).2).update (h.hE i oi hi)
  · intro i oi g hi
    rw [show Owns.get ((σ.nx, some o) :: σ.E) i = _ from Owns.get_cons ..] at hi
    show blockOf (if i = σ.nx then bv else β i) = some g → _
    by_cases hs : σ.nx = i
    · rw [if_pos hs.symm]
      intro hg
      exact .inl (Nat.le_trans h.bel.size (hnew g hg))
    · rw [if_neg hs] at hi
      rw [if_neg (Ne.symm hs)]
      exact h.new i oi g hi
  · intro i j oi oj hi hj hij g
    rw [show Owns.get ((σ.nx, some o) :: σ.E) i = _ from Owns.get_cons ..] at hi
    rw [show Owns.get ((σ.nx, some o) :: σ.E) j = _ from Owns.get_cons ..] at hj
    show blockOf (if i = σ.nx then bv else β i) = some g → blockOf (if j = σ.nx then bv else β j) ≠ some g
    by_cases h1 : σ.nx = i
    · by_cases h2 : σ.nx = j
      · omega
      · rw [if_neg h2] at hj
        rw [if_pos h1.symm, if_neg (Ne.symm h2)]
        intro hg hg'
        have := hnew g hg
        have := ((h.own j oj hj).block_lt hg').2
        omega
    · rw [if_neg h1] at hi
      rw [if_neg (Ne.symm h1)]
      by_cases h2 : σ.nx = j
      · rw [if_pos h2.symm]
        intro hg hg'
        have := hnew g hg'
        have := ((h.own i oi hi).block_lt hg).2
        omega
      · rw [if_neg h2] at hj
        rw [if_neg (Ne.symm h2)]
        exact h.inj i j oi oj hi hj hij g
  · intro i oi hi
    rw [show Owns.get ((σ.nx, some o) :: σ.E) i = _ from Owns.get_cons ..] at hi
    show i < σ.nx + 1
    by_cases hs : σ.nx = i
    · omega
    · rw [if_neg hs] at hi
      have := h.lt i oi hi
      omega
  · obtain ⟨hn, hf⟩ := h.fix
    refine ⟨Nat.le_succ_of_le hn, fun i hi => ?_⟩
    obtain ⟨h2, h3⟩ := hf i hi
    refine ⟨?_, fun oi ho => ?_⟩
    · show blockOf (if i = σ.nx then bv else β i) = some (X.fix i)
      rw [if_neg (by omega)]
      exact h2
    · rw [show Owns.get ((σ.nx, some o) :: σ.E) i = _ from Owns.get_cons .., if_neg (by omega)] at ho
      exact h3 oi ho
  · intro s
    show (Frame.get ((d, v) :: σ.F) s).bound ≤ σ.nx + 1
    rw [Frame.get_cons]
    by_cases hs : d = s
    · rw [if_pos hs]; exact hb
    · rw [if_neg hs]; have := h.hb s; omega
  · intro i oi hi
    rw [show Owns.get ((σ.nx, some o) :: σ.E) i = _ from Owns.get_cons ..] at hi
    by_cases hs : σ.nx = i
    · rw [if_pos hs] at hi; cases hi; exact hu
    · rw [if_neg hs] at hi
      intro vs e v hv
      have := h.hE i oi hi vs e v hv
      show v.bound ≤ σ.nx + 1
      omega

/-- the i-th is written in place: its block alone turns -/
theorem Sim.write (h : Sim w0 X n σ β a w) {i : Nat} {o o' : OObj} (hi : Owns.get σ.E i = some o) (hg : w.grownBy w' (blockOf (β i)))
    (hr : Keeps w w' (OSet X σ.E β) (OSet X σ.E β) → OwnRep w' (OSet X σ.E β) β 0 (β i) o') (hbuf : o'.isBuf = o.isBuf) (hu : o'.under σ.nx := by exact fun _ e => by cases e) :
    Sim w0 X n { σ with E := (i, some o') :: σ.E } β a w' := by
  have hO : ∀ g, OSet X ((i, some o') :: σ.E) β g ↔ OSet X σ.E β g := fun g => by
    unfold OSet
    constructor
    · rintro (h1 | ⟨j, oj, h1, h2⟩)
      · exact .inl h1
      · rw [Owns.get_cons] at h1
        by_cases hj : i = j
        · subst hj; exact .inr ⟨i, o, hi, h2⟩
        · rw [if_neg hj] at h1; exact .inr ⟨j, oj, h1, h2⟩
    · rintro (h1 | ⟨j, oj, h1, h2⟩)
      · exact .inl h1
      · by_cases hj : i = j
        · subst hj; exact .inr ⟨i, o', by rw [Owns.get_cons, if_pos rfl], h2⟩
        · exact .inr ⟨j, oj, by rw [Owns.get_cons, if_neg hj]; exact h1, h2⟩
  have hO' : OSet X ((i, some o') :: σ.E) β = OSet X σ.E β := funext fun g => propext (hO g)
  have hkeep : Keeps w w' (OSet X σ.E β) (OSet X σ.E β) := ⟨hg.size, fun g hgl hgo => hg.block g hgl fun e => hgo (.inr ⟨i, o, hi, e.symm⟩), fun _ _ h => h⟩
  refine ⟨h.sz, h.df, h.bel.grown hg (fun g e => h.new i o g hi e), ?_, ?_, ?_, ?_, ?_, ⟨h.fix.1, fun j hj => ?_⟩, h.hb, ?_⟩
  · intro s
    show RepV w' (OSet X ((i, some o') :: σ.E) β) β _ _ _
    rw [hO']
    exact RepV.keep hkeep _ _ _ (h.fr s)
  · intro j oj hj
    show OwnRep w' (OSet X ((i, some o') :: σ.E) β) β _ _ _
    rw [hO']
    rw [show Owns.get ((i, some o') :: σ.E) j = _ from Owns.get_cons ..] at hj
    by_cases hs : i = j
    · subst hs; rw [if_pos rfl] at hj; cases hj; exact hr hkeep
    · rw [if_neg hs] at hj
      refine (h.own j oj hj).keep hkeep fun g hgb => hg.block g ((h.own j oj hj).block_lt hgb).2 fun e => ?_
      exact h.inj i j o oj hi hj hs g e.symm hgb
  · intro j oj g hj
    rw [show Owns.get ((i, some o') :: σ.E) j = _ from Owns.get_cons ..] at hj
    by_cases hs : i = j
    · subst hs; exact h.new i o g hi
    · rw [if_neg hs] at hj; exact h.new j oj g hj
  · intro j k oj ok hj hk
    rw [show Owns.get ((i, some o') :: σ.E) j = _ from Owns.get_cons ..] at hj
    rw [show Owns.get ((i, some o') :: σ.E) k = _ from Owns.get_cons ..] at hk
    have hj' : ∃ p, Owns.get σ.E j = some p := by
      by_cases hs : i = j
      · subst hs; exact ⟨o, hi⟩
      · rw [if_neg hs] at hj; exact ⟨_, hj⟩
    have hk' : ∃ p, Owns.get σ.E k = some p := by
      by_cases hs : i = k
      · subst hs; exact ⟨o, hi⟩
      · rw [if_neg hs] at hk; exact ⟨_, hk⟩
    obtain ⟨p, hp⟩ := hj'
    obtain ⟨q, hq⟩ := hk'
    exact h.inj j k p q hp hq
  · intro j oj hj
    rw [show Owns.get ((i, some o') :: σ.E) j = _ from Owns.get_cons ..] at hj
    by_cases hs : i = j
    · subst hs; exact h.lt i o hi
    · rw [if_neg hs] at hj; exact h.lt j oj hj
  · obtain ⟨h2, h3⟩ := h.fix.2 j hj
    refine ⟨h2, fun oj ho => ?_⟩
    rw [show Owns.get ((i, some o') :: σ.E) j = _ from Owns.get_cons ..] at ho
    by_cases hs : i = j
    · subst hs
      rw [if_pos rfl] at ho
      cases ho
      rw [hbuf]
      exact h3 o hi
    · rw [if_neg hs] at ho
      exact h3 oj ho
  · intro j oj hj
    rw [show Owns.get ((i, some o') :: σ.E) j = _ from Owns.get_cons ..] at hj
    by_cases hs : i = j
    · rw [if_pos hs] at hj; cases hj; exact hu
    · rw [if_neg hs] at hj; exact h.hE j oj hj

/-- the i-th is no longer known -/
theorem Sim.forget (h : Sim w0 X n σ β a w) (i : Nat) : Sim w0 X n { σ with E := (i, none) :: σ.E } β a w := by
  have hget : ∀ j oj, Owns.get ((i, none) :: σ.E) j = some oj → i ≠ j ∧ Owns.get σ.E j = some oj := fun j oj hj => by
    rw [Owns.get_cons] at hj
    by_cases hs : i = j
    · rw [if_pos hs] at hj; cases hj
    · rw [if_neg hs] at hj; exact ⟨hs, hj⟩
  have hkeep : Keeps w w (OSet X σ.E β) (OSet X ((i, none) :: σ.E) β) := ⟨Nat.le_refl _, fun _ _ _ => rfl, fun g _ hg => by
    rcases hg with hg | ⟨j, oj, h1, h2⟩
    · exact .inl hg
    · exact .inr ⟨j, oj, (hget j oj h1).2, h2⟩⟩
  exact ⟨h.sz, h.df, h.bel, fun s => RepV.keep hkeep _ _ _ (h.fr s), fun j oj hj => (h.own j oj (hget j oj hj).2).keep hkeep fun _ _ => rfl, fun j oj g hj => h.new j oj g (hget j oj hj).2,
    fun j k oj ok hj hk => h.inj j k oj ok (hget j oj hj).2 (hget k ok hk).2, fun j oj hj => h.lt j oj (hget j oj hj).2, ⟨h.fix.1, fun j hj => ⟨(h.fix.2 j hj).1, fun oj ho => (h.fix.2 j hj).2 oj (hget j oj ho).2⟩⟩, h.hb, fun j oj hj => h.hE j oj (hget j oj hj).2⟩

/-- weaker knowledge of the slots -/
theorem Sim.weaken (h : Sim w0 X n σ β a w) {F' : Frame} (hF : ∀ s, Frame.get F' s = Frame.get σ.F s ∨ Frame.get F' s = ⟨.junk, ()⟩) : Sim w0 X n { σ with F := F' } β a w :=
  ⟨h.sz, h.df, h.bel, fun s => by
    rcases hF s with e | e
    · show RepV _ _ _ (Frame.get F' s).t _ _; rw [e]; exact h.fr s
    · show RepV _ _ _ (Frame.get F' s).t _ _; rw [e]; trivial, h.own, h.new, h.inj, h.lt, h.fix, fun s => by
    rcases hF s with e | e
    · show (Frame.get F' s).bound ≤ _; rw [e]; exact h.hb s
    · show (Frame.get F' s).bound ≤ _; rw [e]; exact Nat.zero_le _, h.hE⟩

/-- the slice of the call's own reads as a list that stays -/
theorem OwnRep.view {B : Nat} {bv : Value} {te : TypeId} {t : Ty} {xs : List t.T} {O O' : Nat → Prop} (h : OwnRep w O β B bv (.buf te t xs)) (hO : ∀ g, g < w.heap.size → O' g → O g) (hn : ∀ g, blockOf bv = some g → ¬ O' g) :
    RepD w O' (.slice t) xs bv := by
  rw [RepD.scalar rfl]
  refine ⟨bv, rfl, ?_⟩
  obtain ⟨cs, h1, h2, h3⟩ := h
  have h1' : RepL (RepC w O' t) xs cs := h1.mono fun x _ c => RepC.keep ⟨Nat.le_refl _, fun _ _ _ => rfl, hO⟩ _ _ _
  rcases h2.2 with ⟨rfl, h4⟩ | ⟨g, cap, cur, rfl, h5, h6, h7, h8, h9, h10⟩
  · have : xs = [] := List.eq_nil_of_length_eq_zero h4
    subst this
    exact .inl ⟨rfl, none, 0, rfl, by simp [maxLen]⟩
  · by_cases hx : xs = []
    · subst hx
      exact .inl ⟨rfl, some ⟨g, 0, none⟩, cap, rfl, h8⟩
    · refine .inr ⟨g, 0, cap, cs, rfl, hx, h7, h8, (Array.getElem?_eq_some_iff.1 h6).1, hn g rfl, h1', fun j u hu => ?_⟩
      rw [Nat.zero_add]
      unfold World.cell?
      rw [h6]
      simp only [Option.isSome_none, Bool.false_eq_true, if_false]
      rw [← h10, List.getElem?_take] at hu
      split at hu
      · simpa using hu
      · cases hu

/-- what a slot's value becomes when the i-th slice is given away -/
def thaw (i : Nat) (t : Ty) (xs : List t.T) (v : V) : V :=
  match v with
  | ⟨.obuf _, j⟩ => bif Nat.beq i j then ⟨.slice t, xs⟩ else v
  | v => v
def Frame.thaw (i : Nat) (t : Ty) (xs : List t.T) : List (Nat × V) → List (Nat × V)
  | [] => []
  | (s, v) :: r => (s, Go.Proofs.YtbbeldmcdjjnbaaDoor.thaw i t xs v) :: Frame.thaw i t xs r
theorem Frame.get_thaw (i : Nat) (t : Ty) (xs : List t.T) (F : Frame) (s : Nat) : Frame.get (Frame.thaw i t xs F) s = Go.Proofs.YtbbeldmcdjjnbaaDoor.thaw i t xs (Frame.get F s) := by
  induction F with
  | nil => rfl
  | cons p F ih =>
    obtain ⟨d, v⟩ := p
    simp only [Frame.thaw, Frame.get_cons, ih]
    split <;> rfl
/-- the i-th slice is given away: it is a list that stays -/
theorem Sim.freeze (h : Sim w0 X n σ β a w) (hX : X.Ok w0) {i : Nat} {te : TypeId} {t : Ty} {xs : List t.T} (hi : Owns.get σ.E i = some (.buf te t xs)) :
    Sim w0 X n { F := Frame.thaw i t xs σ.F, E := (i, none) :: σ.E, nx := σ.nx } β a w := by
  have h' := h.forget i
  have hv : RepD w (OSet X ((i, none) :: σ.E) β) (.slice t) xs (β i) := (h.own i _ hi).view (fun g _ hg => by
      rcases hg with hg | ⟨j, oj, h1, h2⟩
      · exact .inl hg
      · rw [Owns.get_cons] at h1
        by_cases hs : i = j
        · rw [if_pos hs] at h1; cases h1
        · rw [if_neg hs] at h1; exact .inr ⟨j, oj, h1, h2⟩) fun g hg hg' => by
      rcases hg' with hg' | ⟨j, oj, h1, h2⟩
      · have h3 := hX.1 g hg'
        rcases h.new i _ g hi hg with h4 | h4
        · omega
        · exact h3.2 h4
      · rw [Owns.get_cons] at h1
        by_cases hs : i = j
        · rw [if_pos hs] at h1; cases h1
        · rw [if_neg hs] at h1
          exact h.inj i j _ _ hi h1 hs g hg h2
  refine ⟨h'.sz, h'.df, h'.bel, fun s => ?_, h'.own, h'.new, h'.inj, h'.lt, h'.fix, fun s => ?_, h'.hE⟩
  · have h1 := h'.fr s
    show RepV _ _ _ (Frame.get (Frame.thaw i t xs σ.F) s).t _ _
    rw [Frame.get_thaw]
    revert h1
    show RepV _ _ _ (Frame.get σ.F s).t _ _ → _
    generalize Frame.get σ.F s = v
    obtain ⟨vt, vx⟩ := v
    cases vt <;> first | exact id | skip
    rename_i t'
    intro h1
    have h1' : a.tmps.getD s undef = β vx := h1
    simp only [Go.Proofs.YtbbeldmcdjjnbaaDoor.thaw]
    cases e : Nat.beq i vx with
    | true =>
      have e' : i = vx := Nat.eq_of_beq_eq_true e
      simp only [cond_true]
      rw [h1', ← e']
      exact hv
    | false => exact h1
  · have h1 := h'.hb s
    show (Frame.get (Frame.thaw i t xs σ.F) s).bound ≤ _
    rw [Frame.get_thaw]
    revert h1
    show (Frame.get σ.F s).bound ≤ _ → _
    generalize Frame.get σ.F s = v
    obtain ⟨vt, vx⟩ := v
    cases vt <;> first | exact id | skip
    intro h1
    simp only [Go.Proofs.YtbbeldmcdjjnbaaDoor.thaw]
    cases e : Nat.beq i vx with
    | true => exact Nat.zero_le _
    | false => exact h1
end
end Go.Proofs.YtbbeldmcdjjnbaaDoor
