/-
  Typed plain values for Go's values: what a cell, a slot, a variable of the call's own stands for, and what of a world may turn without a change of it. No program is read here.
-/
import Derived.WalkKit
import Derived.WalkSpells
import Derived.WalkLawsBesides
import Derived.Lib.Hide
import Derived.Laws.OwnMore
import Derived.Laws.Rows
import Derived.RegionTactic
import Derived.OwnWalk
import Derived.Orders
import Derived.StillTail
namespace Go.Proofs.YtbbeldmcdjjnbaaDoor
open Go Go.RowKit
set_option linter.unusedSimpArgs false
set_option linter.unusedVariables false

/-- the plain type of an integer kind -/
@[reducible] def IntT : IntKind → Type
  | .u8 => UInt8
  | .u16 => BitVec 16
  | .u32 => BitVec 32
  | .u64 => BitVec 64
  | _ => Int
def encI : (k : IntKind) → IntT k → Int
  | .u8, x => ((UInt8.toNat x : Nat) : Int)
  | .u16, x => ((BitVec.toNat (w := 16) x : Nat) : Int)
  | .u32, x => ((BitVec.toNat (w := 32) x : Nat) : Int)
  | .u64, x => ((BitVec.toNat (w := 64) x : Nat) : Int)
  | .i8, x => x
  | .i16, x => x
  | .i32, x => x
  | .i64, x => x
def decI : (k : IntKind) → Int → IntT k
  | .u8, n => UInt8.ofNat n.toNat
  | .u16, n => BitVec.ofInt 16 n
  | .u32, n => BitVec.ofInt 32 n
  | .u64, n => BitVec.ofInt 64 n
  | .i8, n => n
  | .i16, n => n
  | .i32, n => n
  | .i64, n => n

inductive Ty where
  | bool
  | int (k : IntKind)
  | str
  | unit
  | pair (a b : Ty)
  | arr (n : Nat) (t : Ty)
  | slice (t : Ty)
  | junk
  | lit
  | vptr (t : Ty)
  | optr (t : Ty)
  | obuf (t : Ty)
  | tup (a b : Ty)
  | cond (t : Ty)
  | clo (f : Nat) (t : Ty)
  | mapL
  | hptr
  | hcons (a b : Ty)
  | cptr (g off : Nat) (t : Ty)

/-- a place inside a variable -/
inductive Path : Ty → Ty → Type where
  | here {r : Ty} : Path r r
  | fst {r a b : Ty} (p : Path r (.pair a b)) : Path r a
  | snd {r a b : Ty} (p : Path r (.pair a b)) : Path r b
  | idx {r t : Ty} {n : Nat} (p : Path r (.arr n t)) (k : Nat) : Path r t
  | elm {t : Ty} (k : Nat) : Path (.slice t) t
/-- a pointer into a variable of the call's own -/
structure OPtr (t : Ty) where
  i : Nat
  root : Ty
  p : Path root t

@[reducible] def Ty.T : Ty → Type
  | .bool => Bool
  | .int k => IntT k
  | .str => List UInt8
  | .unit => Unit
  | .pair a b => a.T × b.T
  | .arr _ t => List t.T
  | .slice t => List t.T
  | .junk => Unit
  | .lit => Value
  | .vptr t => t.T
  | .optr t => OPtr t
  | .obuf _ => Nat
  | .tup a b => a.T × b.T
  | .cond t => Bool × t.T
  | .clo _ t => t.T
  | .mapL => List (Value × Value)
  | .hptr => Nat × Nat
  | .hcons a b => a.T × b.T
  | .cptr _ _ t => t.T

def Ty.size : Ty → Nat
  | .bool | .int _ | .str | .slice _ => 1
  | .pair a b => a.size + b.size
  | .arr n t => n * t.size
  | _ => 0
def Ty.isAgg : Ty → Bool
  | .unit | .pair _ _ | .arr _ _ => true
  | _ => false
def Ty.beq : Ty → Ty → Bool
  | .bool, .bool => true
  | .int k, .int l => decide (k = l)
  | .str, .str => true
  | .unit, .unit => true
  | .pair a b, .pair c d => a.beq c && b.beq d
  | .arr n a, .arr m b => Nat.beq n m && a.beq b
  | .slice a, .slice b => a.beq b
  | .vptr a, .vptr b => a.beq b
  | .tup a b, .tup c d => a.beq c && b.beq d
  | .clo f a, .clo g b => Nat.beq f g && a.beq b
  | .mapL, .mapL => true
  | .lit, .lit => true
  | _, _ => false
theorem Ty.beq_eq : ∀ {a b : Ty}, a.beq b = true → a = b := by
  intro a
  induction a with
  | pair a b iha ihb => intro c h; cases c <;> simp_all [Ty.beq]; exact ⟨iha h.1, ihb h.2⟩
  | arr n a ih => intro c h; cases c <;> simp_all [Ty.beq]; exact ih h.2
  | slice a ih => intro c h; cases c <;> simp_all [Ty.beq]; exact ih h
  | vptr a ih => intro c h; cases c <;> simp_all [Ty.beq]; exact ih h
  | tup a b iha ihb => intro c h; cases c <;> simp_all [Ty.beq]; exact ⟨iha h.1, ihb h.2⟩
  | clo f a ih => intro c h; cases c <;> simp_all [Ty.beq]; exact ih h.2
  | _ => intro c h; cases c <;> simp_all [Ty.beq]
/-- a plain value with its type -/
structure V where
  t : Ty
  x : t.T

def RepL {α : Type} (R : α → List Value → Prop) : List α → List Value → Prop
  | [], cs => cs = []
  | x :: xs, cs => ∃ c1 c2, cs = c1 ++ c2 ∧ R x c1 ∧ RepL R xs c2
def CellsAt (w : World) (g off : Nat) (vs : List Value) : Prop := ∀ j u, vs[j]? = some u → w.cell? ⟨g, off + j, none⟩ = some u
def RepS {α : Type} (w : World) (O : Nat → Prop) (R : α → List Value → Prop) (xs : List α) (v : Value) : Prop :=
  (xs = [] ∧ ∃ A c, v = .slice A 0 c ∧ c ≤ maxLen) ∨
  (∃ g off c vs, v = .slice (some ⟨g, off, none⟩) xs.length c ∧ xs ≠ [] ∧ xs.length ≤ c ∧ c ≤ maxLen ∧ g < w.heap.size ∧ ¬ O g ∧ RepL R xs vs ∧ CellsAt w g off vs)
/-- the cells that a plain value stands for -/
def RepC (w : World) (O : Nat → Prop) : (t : Ty) → t.T → List Value → Prop
  | .bool, b, cs => cs = [.bool b]
  | .int k, x, cs => cs = [.int k (encI k x)]
  | .str, l, cs => cs = [.string ⟨List.toArray l⟩] ∧ List.length l ≤ maxLen
  | .unit, _, cs => cs = []
  | .pair a b, x, cs => ∃ c1 c2, cs = c1 ++ c2 ∧ RepC w O a x.1 c1 ∧ RepC w O b x.2 c2
  | .arr n t, xs, cs => List.length xs = n ∧ RepL (RepC w O t) xs cs
  | .slice t, xs, cs => ∃ v, cs = [v] ∧ RepS w O (RepC w O t) xs v
  | _, _, _ => False
/-- a value of a data type in a slot -/
def RepD (w : World) (O : Nat → Prop) (t : Ty) (x : t.T) (v : Value) : Prop :=
  if t.isAgg then ∃ cs, v = .agg cs.toArray ∧ RepC w O t x cs else RepC w O t x [v]
def RepTup (w : World) (O : Nat → Prop) : (t : Ty) → t.T → List Value → Prop
  | .tup a b, x, vs => ∃ v r, vs = v :: r ∧ RepD w O a x.1 v ∧ RepTup w O b x.2 r
  | .unit, _, vs => vs = []
  | _, _, _ => False
def blockOf : Value → Option Nat
  | .pointer (some a) => some a.block
  | .slice (some a) _ _ => some a.block
  | _ => none
def Path.off : {r t : Ty} → Path r t → Nat
  | _, _, .here => 0
  | _, _, .fst p => p.off
  | _, _, .snd (a := a) p => p.off + a.size
  | _, _, .idx (t := t) p k => p.off + k * t.size
  | _, _, .elm (t := t) k => k * t.size
/-- a pointer to memory that stays -/
def RepP (w : World) (O : Nat → Prop) : (t : Ty) → t.T → Value → Prop
  | .vptr t, x, v => ∃ g off cs, v = .pointer (some ⟨g, off, none⟩) ∧ g < w.heap.size ∧ ¬ O g ∧ RepC w O t x cs ∧ CellsAt w g off cs
  | _, _, _ => False
/-- what a function literal holds of the variables around it -/
def RepCap (w : World) (O : Nat → Prop) : (t : Ty) → t.T → List Value → Prop
  | .tup a b, x, vs => ∃ v r, vs = v :: r ∧ RepP w O a x.1 v ∧ RepCap w O b x.2 r
  | .unit, _, vs => vs = []
  | _, _, _ => False
/-- what a slot holds -/
def RepV (w : World) (O : Nat → Prop) (β : Nat → Value) : (t : Ty) → t.T → Value → Prop
  | .junk, _, _ => True
  | .lit, x, v => v = x
  | .vptr t, x, v => ∃ g off cs, v = .pointer (some ⟨g, off, none⟩) ∧ g < w.heap.size ∧ ¬ O g ∧ RepC w O t x cs ∧ CellsAt w g off cs
  | .optr _, p, v => ∃ g, blockOf (β p.i) = some g ∧ v = .pointer (some ⟨g, p.p.off, none⟩)
  | .obuf _, i, v => v = β i
  | .tup a b, x, v => ∃ vs, v = .tuple vs.toArray ∧ RepTup w O (.tup a b) x vs
  | .cond t, x, v => (x.1 = true → RepV w O β t x.2 v) ∧ (x.1 = false → v = undef)
  | .clo f t, x, v => ∃ vs, v = .func (.func f) #[] (List.toArray vs) ∧ RepCap w O t x vs
  | .mapL, es, v => ∃ r ms clock, v = .map (some r) ∧ r < w.heap.size ∧ ¬ O r ∧ w.heap[r]? = some (.map ms clock) ∧ (Array.toList ms).map (fun e => (e.key, e.val)) = es
  | .hptr, x, v => ∃ g, blockOf (β x.1) = some g ∧ v = .pointer (some ⟨g, x.2, none⟩)
  | .hcons a b, x, v => ∃ u s, v = .agg (List.toArray (u :: s)) ∧ u.oneCell' = true ∧ RepV w O β a x.1 u ∧ RepV w O β b x.2 (.agg (List.toArray s))
  | .cptr g off t, x, v => ∃ cs, v = .pointer (some ⟨g, off, none⟩) ∧ g < w.heap.size ∧ ¬ O g ∧ RepC w O t x cs ∧ CellsAt w g off cs
  | .bool, x, v => RepD w O .bool x v
  | .int k, x, v => RepD w O (.int k) x v
  | .str, x, v => RepD w O .str x v
  | .unit, x, v => RepD w O .unit x v
  | .pair a b, x, v => RepD w O (.pair a b) x v
  | .arr n t, x, v => RepD w O (.arr n t) x v
  | .slice t, x, v => RepD w O (.slice t) x v

section repl
variable {α : Type} {R R' : α → List Value → Prop} {xs ys : List α} {cs ds : List Value}
theorem RepL.mono (h : RepL R xs cs) (hr : ∀ x, x ∈ xs → ∀ c, R x c → R' x c) : RepL R' xs cs := by
  induction xs generalizing cs with
  | nil => exact h
  | cons x xs ih =>
    obtain ⟨c1, c2, h1, h2, h3⟩ := h
    exact ⟨c1, c2, h1, hr _ (by simp) _ h2, ih h3 fun y hy => hr y (by simp [hy])⟩
theorem RepL.len {s : Nat} (h : RepL R xs cs) (hs : ∀ x c, R x c → c.length = s) : cs.length = xs.length * s := by
  induction xs generalizing cs with
  | nil => cases h; simp
  | cons x xs ih =>
    obtain ⟨c1, c2, rfl, h2, h3⟩ := h
    simp [hs _ _ h2, ih h3, Nat.add_mul, Nat.add_comm]
theorem RepL.all {p : Value → Prop} (h : RepL R xs cs) (hs : ∀ x c, R x c → ∀ u ∈ c, p u) : ∀ u ∈ cs, p u := by
  induction xs generalizing cs with
  | nil => cases h; simp
  | cons x xs ih =>
    obtain ⟨c1, c2, rfl, h2, h3⟩ := h
    intro u hu
    rcases List.mem_append.1 hu with hu | hu
    · exact hs _ _ h2 u hu
    · exact ih h3 u hu
theorem RepL.append (h : RepL R xs cs) (h' : RepL R ys ds) : RepL R (xs ++ ys) (cs ++ ds) := by
  induction xs generalizing cs with
  | nil => cases h; simpa using h'
  | cons x xs ih =>
    obtain ⟨c1, c2, rfl, h2, h3⟩ := h
    exact ⟨c1, c2 ++ ds, by simp, h2, ih h3⟩
theorem RepL.one {x : α} (h : R x cs) : RepL R [x] cs := ⟨cs, [], by simp, h, rfl⟩
/-- the cells of the i-th -/
theorem RepL.nth {s i : Nat} {x : α} (h : RepL R xs cs) (hs : ∀ x c, R x c → c.length = s) (hx : xs[i]? = some x) : R x ((cs.drop (i * s)).take s) := by
  induction xs generalizing cs i with
  | nil => simp at hx
  | cons y ys ih =>
    obtain ⟨c1, c2, rfl, h2, h3⟩ := h
    have hl := hs _ _ h2
    cases i with
    | zero =>
      simp at hx
      subst hx
      simp [← hl, h2]
    | succ i =>
      have := ih h3 (by simpa using hx)
      rw [show (i + 1) * s = c1.length + i * s by rw [hl, Nat.add_mul]; omega]
      rw [List.drop_length_add_append]
      exact this
theorem RepL.drop {s : Nat} (h : RepL R xs cs) (hs : ∀ x c, R x c → c.length = s) (i : Nat) : RepL R (xs.drop i) (cs.drop (i * s)) := by
  induction xs generalizing cs i with
  | nil => cases h; simp [RepL]
  | cons y ys ih =>
    cases i with
    | zero => simpa using h
    | succ i =>
      obtain ⟨c1, c2, rfl, h2, h3⟩ := h
      have hl := hs _ _ h2
      rw [show (i + 1) * s = c1.length + i * s by rw [hl, Nat.add_mul]; omega]
      rw [List.drop_length_add_append]
      exact ih h3 i
theorem RepL.take {s : Nat} (h : RepL R xs cs) (hs : ∀ x c, R x c → c.length = s) (i : Nat) : RepL R (xs.take i) (cs.take (i * s)) := by
  induction xs generalizing cs i with
  | nil => cases h; simp [RepL]
  | cons y ys ih =>
    cases i with
    | zero => simp [RepL]
    | succ i =>
      obtain ⟨c1, c2, rfl, h2, h3⟩ := h
      have hl := hs _ _ h2
      rw [show (i + 1) * s = c1.length + i * s by rw [hl, Nat.add_mul]; omega, List.take_length_add_append]
      exact ⟨c1, _, rfl, h2, ih h3 i⟩
theorem RepL.set {s i : Nat} {x : α} {c : List Value} (h : RepL R xs cs) (hs : ∀ x c, R x c → c.length = s) (hi : i < xs.length) (hx : R x c) : RepL R (xs.set i x) (cs.take (i * s) ++ c ++ cs.drop (i * s + s)) := by
  induction xs generalizing cs i with
  | nil => simp at hi
  | cons y ys ih =>
    obtain ⟨c1, c2, rfl, h2, h3⟩ := h
    have hl := hs _ _ h2
    cases i with
    | zero => exact ⟨c, c2, by simp [← hl], hx, h3⟩
    | succ i =>
      refine ⟨c1, _, ?_, h2, ih h3 (by simpa using hi)⟩
      rw [show (i + 1) * s = c1.length + i * s by rw [hl, Nat.add_mul]; omega, List.take_length_add_append, Nat.add_assoc, List.drop_length_add_append]
      simp
end repl

section
variable {w w' : World} {O O' : Nat → Prop} {β : Nat → Value}
theorem CellsAt.keep {g off : Nat} {vs : List Value} (h : CellsAt w g off vs) (hk : w'.heap[g]? = w.heap[g]?) : CellsAt w' g off vs :=
  fun j u hu => (World.cell?_of_block (w := w) hk).trans (h j u hu)
theorem CellsAt.drop {g off : Nat} {vs : List Value} (h : CellsAt w g off vs) (i : Nat) : CellsAt w g (off + i) (vs.drop i) :=
  fun j u hu => by have := h (i + j) u (by simpa using hu); rwa [← Nat.add_assoc] at this
theorem CellsAt.take {g off : Nat} {vs : List Value} (h : CellsAt w g off vs) (i : Nat) : CellsAt w g off (vs.take i) :=
  fun j u hu => h j u (by
    rw [List.getElem?_take] at hu
    split at hu
    · exact hu
    · cases hu)

theorem RepC.len : ∀ (t : Ty) (x : t.T) (cs : List Value), RepC w O t x cs → cs.length = t.size := by
  intro t
  induction t with
  | bool => intro x cs h; cases h; rfl
  | int k => intro x cs h; cases h; rfl
  | str => intro x cs h; cases h.1; rfl
  | unit => intro x cs h; cases h; rfl
  | pair a b iha ihb => rintro x cs ⟨c1, c2, rfl, h1, h2⟩; simp [iha _ _ h1, ihb _ _ h2, Ty.size]
  | arr n t ih => rintro x cs ⟨h1, h2⟩; simp only [Ty.size, ← h1]; exact h2.len ih
  | slice t ih => rintro x cs ⟨v, rfl, _⟩; rfl
  | _ => intro x cs h; exact absurd h (by simp [RepC])
theorem RepC.oneCell : ∀ (t : Ty) (x : t.T) (cs : List Value), RepC w O t x cs → ∀ u ∈ cs, u.oneCell' = true := by
  intro t
  induction t with
  | bool => intro x cs h; cases h; simp [Value.oneCell']
  | int k => intro x cs h; cases h; simp [Value.oneCell']
  | str => intro x cs h; cases h.1; simp [Value.oneCell']
  | unit => intro x cs h; cases h; simp
  | pair a b iha ihb =>
    rintro x cs ⟨c1, c2, rfl, h1, h2⟩ u hu
    rcases List.mem_append.1 hu with hu | hu
    · exact iha _ _ h1 u hu
    · exact ihb _ _ h2 u hu
  | arr n t ih => rintro x cs ⟨h1, h2⟩; exact h2.all ih
  | slice t ih =>
    rintro x cs ⟨v, rfl, h⟩
    rcases h with ⟨_, A, c, rfl, _⟩ | ⟨g, off, c, vs, rfl, _⟩ <;> simp [Value.oneCell']
  | _ => intro x cs h; exact absurd h (by simp [RepC])
/-- what may turn: blocks of the call's own, new blocks -/
structure Keeps (w w' : World) (O O' : Nat → Prop) : Prop where
  size : w.heap.size ≤ w'.heap.size
  block : ∀ g, g < w.heap.size → ¬ O g → w'.heap[g]? = w.heap[g]?
  own : ∀ g, g < w.heap.size → O' g → O g
theorem Keeps.refl (w : World) (O : Nat → Prop) : Keeps w w O O := ⟨Nat.le_refl _, fun _ _ _ => rfl, fun _ _ h => h⟩
theorem Keeps.of_below (h : Below w.heap.size w w') (hO : ∀ g, g < w.heap.size → O' g → O g) : Keeps w w' O O' := ⟨h.size, fun g hg _ => h.block g hg, hO⟩
theorem RepS.keep {α : Type} {R R' : α → List Value → Prop} {xs : List α} {v : Value} (h : RepS w O R xs v) (hk : Keeps w w' O O') (hr : ∀ x c, R x c → R' x c) : RepS w' O' R' xs v := by
  rcases h with h | ⟨g, off, c, vs, h1, h2, h3, h4, h5, h6, h7, h8⟩
  · exact .inl h
  · exact .inr ⟨g, off, c, vs, h1, h2, h3, h4, Nat.lt_of_lt_of_le h5 hk.size, fun h => h6 (hk.own g h5 h), h7.mono fun x _ c => hr x c, h8.keep (hk.block g h5 h6)⟩
theorem RepC.keep (hk : Keeps w w' O O') : ∀ (t : Ty) (x : t.T) (cs : List Value), RepC w O t x cs → RepC w' O' t x cs := by
  intro t
  induction t with
  | pair a b iha ihb => rintro x cs ⟨c1, c2, h, h1, h2⟩; exact ⟨c1, c2, h, iha _ _ h1, ihb _ _ h2⟩
  | arr n t ih => rintro x cs ⟨h1, h2⟩; exact ⟨h1, h2.mono fun x _ c => ih x c⟩
  | slice t ih => rintro x cs ⟨v, h, h2⟩; exact ⟨v, h, h2.keep hk ih⟩
  | _ => intro x cs h; exact h
theorem RepD.keep (hk : Keeps w w' O O') {t : Ty} {x : t.T} {v : Value} (h : RepD w O t x v) : RepD w' O' t x v := by
  unfold RepD at *
  split at h
  · rename_i ht
    obtain ⟨cs, h1, h2⟩ := h
    rw [if_pos ht]
    exact ⟨cs, h1, RepC.keep hk _ _ _ h2⟩
  · rename_i ht
    rw [if_neg ht]
    exact RepC.keep hk _ _ _ h
theorem RepTup.keep (hk : Keeps w w' O O') : ∀ (t : Ty) (x : t.T) (vs : List Value), RepTup w O t x vs → RepTup w' O' t x vs := by
  intro t
  induction t with
  | tup a b iha ihb => rintro x vs ⟨v, r, h, h1, h2⟩; exact ⟨v, r, h, h1.keep hk, ihb _ _ h2⟩
  | unit => intro x vs h; exact h
  | _ => intro x vs h; exact absurd h (by simp [RepTup])
theorem RepP.keep (hk : Keeps w w' O O') {t : Ty} {x : t.T} {v : Value} (h : RepP w O t x v) : RepP w' O' t x v := by
  cases t <;> first | exact h.elim | skip
  obtain ⟨g, off, cs, h1, h2, h3, h4, h5⟩ := h
  exact ⟨g, off, cs, h1, Nat.lt_of_lt_of_le h2 hk.size, fun h => h3 (hk.own g h2 h), RepC.keep hk _ _ _ h4, h5.keep (hk.block g h2 h3)⟩
theorem RepCap.keep (hk : Keeps w w' O O') : ∀ (t : Ty) (x : t.T) (vs : List Value), RepCap w O t x vs → RepCap w' O' t x vs := by
  intro t
  induction t with
  | tup a b iha ihb => rintro x vs ⟨v, r, h, h1, h2⟩; exact ⟨v, r, h, h1.keep hk, ihb _ _ h2⟩
  | unit => intro x vs h; exact h
  | _ => intro x vs h; exact absurd h (by simp [RepCap])
theorem RepV.keep (hk : Keeps w w' O O') : ∀ (t : Ty) (x : t.T) (v : Value), RepV w O β t x v → RepV w' O' β t x v := by
  intro t
  induction t with
  | junk => intro x v h; exact h
  | lit => intro x v h; exact h
  | vptr t _ =>
    rintro x v ⟨g, off, cs, h1, h2, h3, h4, h5⟩
    exact ⟨g, off, cs, h1, Nat.lt_of_lt_of_le h2 hk.size, fun h => h3 (hk.own g h2 h), RepC.keep hk _ _ _ h4, h5.keep (hk.block g h2 h3)⟩
  | cptr g off t _ =>
    rintro x v ⟨cs, h1, h2, h3, h4, h5⟩
    exact ⟨cs, h1, Nat.lt_of_lt_of_le h2 hk.size, fun h => h3 (hk.own g h2 h), RepC.keep hk _ _ _ h4, h5.keep (hk.block g h2 h3)⟩
  | optr t _ => intro x v h; exact h
  | obuf t _ => intro x v h; exact h
  | hptr => intro x v h; exact h
  | hcons a b iha ihb => rintro x v ⟨u, s, h1, h2, h3, h4⟩; exact ⟨u, s, h1, h2, iha _ _ h3, ihb _ _ h4⟩
  | tup a b _ _ => rintro x v ⟨vs, h1, h2⟩; exact ⟨vs, h1, RepTup.keep hk _ _ _ h2⟩
  | cond t ih => intro x v h; exact ⟨fun hc => ih _ _ (h.1 hc), h.2⟩
  | clo f t _ => rintro x v ⟨vs, h1, h2⟩; exact ⟨vs, h1, RepCap.keep hk _ _ _ h2⟩
  | mapL => rintro x v ⟨r, ms, ck, h1, h2, h3, h4, h5⟩; exact ⟨r, ms, ck, h1, Nat.lt_of_lt_of_le h2 hk.size, fun h => h3 (hk.own r h2 h), (hk.block r h2 h3).trans h4, h5⟩
  | _ => intro x v h; exact RepD.keep hk h
end

theorem RepD.scalar {w : World} {O : Nat → Prop} {t : Ty} (ht : t.isAgg = false) {x : t.T} {v : Value} : RepD w O t x v ↔ RepC w O t x [v] := by simp [RepD, ht]
theorem RepD.agg {w : World} {O : Nat → Prop} {t : Ty} (ht : t.isAgg = true) {x : t.T} {v : Value} : RepD w O t x v ↔ ∃ cs, v = .agg cs.toArray ∧ RepC w O t x cs := by simp [RepD, ht]

end Go.Proofs.YtbbeldmcdjjnbaaDoor
