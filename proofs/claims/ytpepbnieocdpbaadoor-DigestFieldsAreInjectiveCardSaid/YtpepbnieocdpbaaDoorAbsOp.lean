/-
  Operations that read and compute, on typed plain values: what each yields and under which conditions. No program is read here.
-/
import Derived.Test.YtpepbnieocdpbaaDoorAbsEq
namespace Go.Proofs.YtpepbnieocdpbaaDoor
open Go Go.RowKit
set_option linter.unusedSimpArgs false
set_option linter.unusedVariables false

abbrev Tbl := List (TypeId × Ty)
def tget : List (TypeId × Ty) → TypeId → Option Ty
  | [], _ => none
  | (s, τ) :: r, t => bif Nat.beq s t then some τ else tget r t
/-- the type t is met as τ -/
def tis (T : Tbl) (t : TypeId) (τ : Ty) : Bool :=
  match tget T t with
  | some σ => σ.beq τ
  | none => false
structure TOk (P : Program) (T : Tbl) (Q : List TypeId) : Prop where
  lay : ∀ t τ, tget T t = some τ → Lay P τ (.inl t)
  cmp : ∀ t, Q.any (Nat.beq t) = true → P.eqGuardType P.depth t = false ∧ ∀ τ, tget T t = some τ → Cmp P τ (.inl t) = true ∧ τ.depth ≤ 10000
theorem TOk.is {P : Program} {T : Tbl} {Q : List TypeId} (h : TOk P T Q) {t : TypeId} {τ : Ty} (ht : tis T t τ = true) : Lay P τ (.inl t) := by
  unfold tis at ht
  split at ht
  · rename_i σ hσ
    rw [← Ty.beq_eq ht]
    exact h.lay _ _ hσ
  · cases ht
theorem tis_get {T : Tbl} {t : TypeId} {τ : Ty} (ht : tis T t τ = true) : tget T t = some τ := by
  unfold tis at ht
  split at ht
  · rename_i σ hσ
    rw [hσ, Ty.beq_eq ht]
  · cases ht

/-! ### operands -/
/-- an integer's constant, if it is one of its kind -/
def evI : (k : IntKind) → Int → V
  | .u8, n => if encI .u8 (UInt8.ofNat n.toNat) = n then ⟨.int .u8, UInt8.ofNat n.toNat⟩ else ⟨.lit, .int .u8 n⟩
  | .u16, n => if encI .u16 (BitVec.ofNat 16 n.toNat) = n then ⟨.int .u16, BitVec.ofNat 16 n.toNat⟩ else ⟨.lit, .int .u16 n⟩
  | .u32, n => if encI .u32 (BitVec.ofNat 32 n.toNat) = n then ⟨.int .u32, BitVec.ofNat 32 n.toNat⟩ else ⟨.lit, .int .u32 n⟩
  | .u64, n => if encI .u64 (BitVec.ofNat 64 n.toNat) = n then ⟨.int .u64, BitVec.ofNat 64 n.toNat⟩ else ⟨.lit, .int .u64 n⟩
  | .i8, n => ⟨.int .i8, n⟩
  | .i16, n => ⟨.int .i16, n⟩
  | .i32, n => ⟨.int .i32, n⟩
  | .i64, n => ⟨.int .i64, n⟩
def evC : Value → V
  | .bool b => ⟨.bool, b⟩
  | .int k n => evI k n
  | .string s => bif Nat.ble s.data.toList.length 1000000 then ⟨.str, s.data.toList⟩ else ⟨.lit, .string s⟩
  | v => ⟨.lit, v⟩
def evO (F : Frame) : Operand → V
  | .tmp s => Frame.get F s
  | .const v => evC v
  | .global g => ⟨.lit, .pointer (some ⟨g, 0, none⟩)⟩
  | .func f => ⟨.lit, .func (.func f) #[] #[]⟩
/-- a value that is known only if something holds -/
def strip : V → List Prop × V
  | ⟨.cond t, (c, y)⟩ => ([c = true], ⟨t, y⟩)
  | v => ([], v)
/-- a slice of the call's own, read as a list -/
def dat (E : Owns) : V → V
  | ⟨.obuf _, i⟩ => match Owns.get E i with
    | some (.buf _ t xs) => ⟨.slice t, xs⟩
    | _ => ⟨.junk, ()⟩
  | v => v
def impP (c : Bool) : List Prop → List Prop
  | [] => []
  | p :: r => [c = true → allP (p :: r)]
/-- as a value of a type -/
def tyEq? (s t : Ty) : Option (PLift (s = t)) := if h : s.beq t = true then some ⟨Ty.beq_eq h⟩ else none
def nilAs : (t : Ty) → V → Option t.T
  | .slice _, ⟨.lit, .slice none 0 0⟩ => some []
  | _, _ => none
def castO : (s t : Ty) → s.T → Option (PLift (s = t)) → Option t.T
  | _, _, x, some ⟨rfl⟩ => some x
  | _, _, _, none => none
def coeA : (s t : Ty) → s.T → Option (PLift (s = t)) → Option t.T
  | _, _, x, some ⟨rfl⟩ => some x
  | s, t, x, none => nilAs t ⟨s, x⟩
def coe (t : Ty) (v : V) : Option t.T :=
  match v with
  | ⟨s, x⟩ => coeA s t x (tyEq? s t)

/-! ### what operations yield -/
abbrev Res := Option (List Prop × V)
/-- more conditions ahead -/
def pre : List Prop → Option (List Prop × V) → Res
  | [], o => o
  | a :: A, o => match pre A o with
    | some (p, v) => some (a :: p, v)
    | none => none
def asI (k : IntKind) (o : Option (List Prop × IntT k)) : Res :=
  match o with
  | some (p, z) => some (p, ⟨.int k, z⟩)
  | none => none
def asT (t : Ty) (o : Option (List Prop × t.T)) : Res :=
  match o with
  | some (p, z) => some (p, ⟨t, z⟩)
  | none => none
def asBool' (o : Option Bool) : Res :=
  match o with
  | some b => some ([], ⟨.bool, b⟩)
  | none => none
def withP (p : List Prop) (o : Option V) : Res :=
  match o with
  | some v => some (p, v)
  | none => none
def pickA (cb : Bool) : (s t : Ty) → s.T → t.T → Option (PLift (t = s)) → Res
  | s, _, x, y, some ⟨rfl⟩ => some ([], ⟨s, bif cb then x else y⟩)
  | _, _, _, _, none => none
def pickB (cb : Bool) (a b : V) : Res :=
  match strip a, strip b with
  | (p, ⟨s, x⟩), (q, ⟨t, y⟩) => pre (impP cb p) (pre (impP (!cb) q) (pickA cb s t x y (tyEq? t s)))
def pickV (c a b : V) : Res :=
  match c with
  | ⟨.bool, cb⟩ => pickB cb a b
  | ⟨.cond .bool, (k, cb)⟩ => pre [k = true] (pickB cb a b)
  | _ => none
def isCmp : BinOp → Bool
  | .eql | .neq | .lss | .leq | .gtr | .geq => true
  | _ => false
def encS : (k : IntKind) → IntT k → Option Int
  | .u8, x => some ((UInt8.toNat x : Nat) : Int)
  | .u16, x => some ((BitVec.toNat (w := 16) x : Nat) : Int)
  | .u32, x => some ((BitVec.toNat (w := 32) x : Nat) : Int)
  | .u64, x => some ((BitVec.toNat (w := 64) x : Nat) : Int)
  | .i8, x => some x
  | .i16, x => some x
  | .i32, x => some x
  | .i64, x => some x
theorem encS_eq (k : IntKind) (x : IntT k) : encS k x = some (encI k x) := by cases k <;> rfl
def numV : V → Option Int
  | ⟨.int k, x⟩ => encS k x
  | _ => none
def kEq? (l k : IntKind) : Option (PLift (l = k)) := if h : l = k then some ⟨h⟩ else none
def binI (op : BinOp) : (k l : IntKind) → IntT k → IntT l → Option (PLift (l = k)) → Res
  | k, _, x, y, some ⟨rfl⟩ => if isCmp op then (match encS k x, encS k y with | some a, some b => asBool' (cmpI op a b) | _, _ => none) else asI k (arI op k x y)
  | _, _, _, _, none => none
noncomputable def binE (op : BinOp) : (t s : Ty) → t.T → s.T → Option (PLift (s = t)) → Res
  | t, _, x, y, some ⟨rfl⟩ => match op with
    | .eql => some ([], ⟨.bool, eqb t x y⟩)
    | .neq => some ([], ⟨.bool, !eqb t x y⟩)
    | _ => none
  | _, _, _, _, none => none
noncomputable def binV (T : Tbl) (Q : List TypeId) (op : BinOp) (xt : TypeId) (a b : V) : Res :=
  match a, b with
  | ⟨.int k, x⟩, ⟨.int l, y⟩ =>
    match op with
    | .shl => match encS l y with
      | some m => asI k (shI .shl k x m)
      | none => none
    | .shr => match encS l y with
      | some m => asI k (shI .shr k x m)
      | none => none
    | op => binI op k l x y (kEq? l k)
  | ⟨.str, x⟩, ⟨.str, y⟩ =>
    match op with
    | .add => some ([List.length x + List.length y ≤ maxLen], ⟨.str, (x : List UInt8) ++ y⟩)
    | .eql => some ([], ⟨.bool, eqb .str x y⟩)
    | .neq => some ([], ⟨.bool, !eqb .str x y⟩)
    | .lss => some ([], ⟨.bool, Op.bytesLess x y⟩)
    | .leq => some ([], ⟨.bool, Op.bytesLess x y || eqb .str x y⟩)
    | .gtr => some ([], ⟨.bool, !(Op.bytesLess x y || eqb .str x y)⟩)
    | .geq => some ([], ⟨.bool, !Op.bytesLess x y⟩)
    | _ => none
  | ⟨.bool, x⟩, ⟨.bool, y⟩ =>
    match op with
    | .eql => if tis T xt .bool then some ([], ⟨.bool, eqb .bool x y⟩) else none
    | .neq => if tis T xt .bool then some ([], ⟨.bool, !eqb .bool x y⟩) else none
    | _ => none
  | ⟨t, x⟩, ⟨s, y⟩ => if (t.isAgg && tis T xt t && Q.any (Nat.beq xt)) = true then binE op t s x y (tyEq? s t) else none
def unV (op : UnOp) (a : V) : Res :=
  match a with
  | ⟨.bool, b⟩ => match op with | .not => some ([], ⟨.bool, !b⟩) | _ => none
  | ⟨.int k, x⟩ => asI k (unI op k x)
  | _ => none
def cvV (T : Tbl) (src dst : TypeId) (a : V) : Res :=
  match a, tget T dst with
  | ⟨.int k, x⟩, some (.int l) => if tis T src (.int k) then asI l (cvI k l x) else none
  | ⟨.str, x⟩, some .str => if tis T src .str then some ([], ⟨.str, x⟩) else none
  | ⟨.str, x⟩, some (.slice (.int .u8)) => if tis T src .str then some ([], ⟨.slice (.int .u8), x⟩) else none
  | ⟨.slice (.int .u8), x⟩, some .str => if tis T src (.slice (.int .u8)) then some ([], ⟨.str, x⟩) else none
  | _, _ => none
def indexV (T : Tbl) (xt : TypeId) (a i : V) : Res :=
  match a, numV i with
  | ⟨.arr n t, xs⟩, some i => if tis T xt (.arr n t) then some ([0 ≤ i, i < n], ⟨t, List.getD xs i.toNat (zeroX t)⟩) else none
  | ⟨.str, l⟩, some i => if tis T xt .str then some ([0 ≤ i, i < (List.length l : Nat)], ⟨.int .u8, List.getD l i.toNat 0⟩) else none
  | _, _ => none
def indexAddrV (T : Tbl) (E : Owns) (xt : TypeId) (a i : V) : Res :=
  match a, numV i with
  | ⟨.slice t, xs⟩, some i => if tis T xt (.slice t) then some ([0 ≤ i, i < (List.length xs : Nat)], ⟨.vptr t, List.getD xs i.toNat (zeroX t)⟩) else none
  | ⟨.vptr (.arr n t), xs⟩, some i => if tis T xt (.arr n t) then some ([0 ≤ i, i < n], ⟨.vptr t, List.getD xs i.toNat (zeroX t)⟩) else none
  | ⟨.optr (.arr n t), ⟨o, r, p⟩⟩, some i => if tis T xt (.arr n t) then some ([0 ≤ i, i < n], ⟨.optr t, ⟨o, r, .idx p i.toNat⟩⟩) else none
  | ⟨.obuf _, j⟩, some i =>
    match Owns.get E j with
    | some (.buf _ t xs) => if tis T xt (.slice t) then some ([0 ≤ i, i < (List.length xs : Nat)], ⟨.optr t, ⟨j, .slice t, .elm i.toNat⟩⟩) else none
    | _ => none
  | _, _ => none
def Path.get : {r t : Ty} → Path r t → r.T → t.T
  | _, _, .here, x => x
  | _, _, .fst p, x => (p.get x).1
  | _, _, .snd p, x => (p.get x).2
  | _, _, .idx (t := t) p k, x => List.getD (p.get x) k (zeroX t)
  | _, _, .elm (t := t) k, x => List.getD x k (zeroX t)
def Path.vcs : {r t : Ty} → Path r t → r.T → List Prop
  | _, _, .here, _ => []
  | _, _, .fst p, x => p.vcs x
  | _, _, .snd p, x => p.vcs x
  | _, _, .idx (n := n) p k, x => p.vcs x ++ [k < n]
  | _, _, .elm k, x => [k < List.length x]
def Path.set : {r t : Ty} → Path r t → r.T → t.T → r.T
  | _, _, .here, _, y => y
  | _, _, .fst p, x, y => p.set x (y, (p.get x).2)
  | _, _, .snd p, x, y => p.set x ((p.get x).1, y)
  | _, _, .idx p k, x, y => p.set x (List.set (p.get x) k y)
  | _, _, .elm k, x, y => List.set x k y
def Path.getO : {r t : Ty} → Path r t → r.T → Option t.T
  | _, _, .here, x => some x
  | _, _, .fst p, x => match p.getO x with
    | some z => some z.1
    | none => none
  | _, _, .snd p, x => match p.getO x with
    | some z => some z.2
    | none => none
  | _, _, .idx (t := t) p k, x => match p.getO x with
    | some z => some (List.getD z k (zeroX t))
    | none => none
  | _, _, .elm (t := t) k, x => some (List.getD x k (zeroX t))
theorem Path.getO_eq : ∀ {r t : Ty} (p : Path r t) (x : r.T), p.getO x = some (p.get x) := by
  intro r t p
  induction p with
  | here => intro x; rfl
  | fst p ih => intro x; simp only [Path.getO, ih, Path.get]
  | snd p ih => intro x; simp only [Path.getO, ih, Path.get]
  | idx p k ih => intro x; simp only [Path.getO, ih, Path.get]
  | elm k => intro x; rfl
def Path.setO : {r t : Ty} → Path r t → r.T → t.T → Option r.T
  | _, _, .here, _, y => some y
  | _, _, .fst p, x, y => match p.getO x with
    | some z => p.setO x (y, z.2)
    | none => none
  | _, _, .snd p, x, y => match p.getO x with
    | some z => p.setO x (z.1, y)
    | none => none
  | _, _, .idx p k, x, y => match p.getO x with
    | some z => p.setO x (List.set z k y)
    | none => none
  | _, _, .elm k, x, y => some (List.set x k y)
theorem Path.setO_eq : ∀ {r t : Ty} (p : Path r t) (x : r.T) (y : t.T), p.setO x y = some (p.set x y) := by
  intro r t p
  induction p with
  | here => intro x y; rfl
  | fst p ih => intro x y; simp only [Path.setO, Path.getO_eq, ih, Path.set]
  | snd p ih => intro x y; simp only [Path.setO, Path.getO_eq, ih, Path.set]
  | idx p k ih => intro x y; simp only [Path.setO, Path.getO_eq, ih, Path.set]
  | elm k => intro x y; rfl
def Path.isElm : {r t : Ty} → Path r t → Bool
  | _, _, .here => false
  | _, _, .fst p => p.isElm
  | _, _, .snd p => p.isElm
  | _, _, .idx p _ => p.isElm
  | _, _, .elm _ => true
/-- the plain value of something of the call's own -/
def OObj.v : OObj → V
  | .box t x => ⟨t, x⟩
  | .buf _ t xs => ⟨.slice t, xs⟩
def rootX (r : Ty) (o : OObj) : Option r.T :=
  match o.v with
  | ⟨s, x⟩ => castO s r x (tyEq? s r)
def loadV (T : Tbl) (E : Owns) (t : TypeId) (a : V) : Res :=
  match a with
  | ⟨.vptr τ, x⟩ => if tis T t τ then some ([], ⟨τ, x⟩) else none
  | ⟨.optr τ, ⟨i, r, p⟩⟩ =>
    match Owns.get E i with
    | some o => if tis T t τ && (Path.isElm p == o.isBuf) then (match rootX r o with | some y => (match Path.getO p y with | some z => some (Path.vcs p y, ⟨τ, z⟩) | none => none) | none => none) else none
    | none => none
  | _ => none
def fieldsV (T : Tbl) (xt : TypeId) (a : V) (n : Nat) : Res :=
  if tis T xt a.t then withP [] (fieldV n a.t a.x) else none
def fieldP : Nat → (r τ : Ty) → Path r τ → Option ((t : Ty) × Path r t)
  | 0, _, .pair a _, p => some ⟨a, .fst p⟩
  | n + 1, r, .pair _ b, p => fieldP n r b (.snd p)
  | _, _, _, _ => none
def fieldAddrV (T : Tbl) (s : TypeId) (a : V) (n : Nat) : Res :=
  match a with
  | ⟨.vptr τ, x⟩ => if tis T s τ then (match fieldV n τ x with | some v => if Nat.blt 0 v.t.size then some ([], ⟨.vptr v.t, v.x⟩) else none | none => none) else none
  | ⟨.optr τ, ⟨i, r, p⟩⟩ => if tis T s τ then (match fieldP n r τ p with | some ⟨t, q⟩ => if Nat.blt 0 t.size then some ([], ⟨.optr t, ⟨i, r, q⟩⟩) else none | none => none) else none
  | _ => none
def tupV : Nat → (t : Ty) → t.T → Option V
  | 0, .tup a _, x => some ⟨a, x.1⟩
  | n + 1, .tup _ b, x => tupV n b x.2
  | _, _, _ => none
def lenV (T : Tbl) (xt : TypeId) (a : V) : Res :=
  match a with
  | ⟨.str, l⟩ => if tis T xt .str then some ([], ⟨.int .i64, ((List.length l : Nat) : Int)⟩) else none
  | ⟨.slice t, l⟩ => if tis T xt (.slice t) then some ([], ⟨.int .i64, ((List.length l : Nat) : Int)⟩) else none
  | ⟨.arr n t, _⟩ => if tis T xt (.arr n t) then some ([], ⟨.int .i64, ((n : Nat) : Int)⟩) else none
  | _ => none
def cutL {α : Type} (xs : List α) : Option V → Option V → Option (List Prop × List α)
  | none, none => some ([], xs)
  | some v, none => match numV v with
    | some i => some ([0 ≤ i, i ≤ (xs.length : Nat)], xs.drop i.toNat)
    | none => none
  | none, some v => match numV v with
    | some j => some ([0 ≤ j, j ≤ (xs.length : Nat)], xs.take j.toNat)
    | none => none
  | some v, some u => match numV v, numV u with
    | some i, some j => some ([0 ≤ i, i ≤ j, j ≤ (xs.length : Nat)], (xs.take j.toNat).drop i.toNat)
    | _, _ => none
def sliceV (T : Tbl) (xt : TypeId) (a : V) (lo hi : Option V) : Res :=
  match a with
  | ⟨.str, l⟩ => if tis T xt .str then asT .str (cutL l lo hi) else none
  | ⟨.slice t, xs⟩ => if tis T xt (.slice t) then asT (.slice t) (cutL xs lo hi) else none
  | ⟨.vptr (.arr n t), xs⟩ => if tis T xt (.arr n t) && Nat.ble n 1000000000 then asT (.slice t) (cutL xs lo hi) else none
  | _ => none
def setField : Nat → (t : Ty) → t.T → V → Option t.T
  | 0, .pair a _, x, v => match coe a v with | some y => some (y, x.2) | none => none
  | n + 1, .pair _ b, x, v => match setField n b x.2 v with | some y => some (x.1, y) | none => none
  | _, _, _, _ => none
def setParts (t : Ty) : t.T → List (Nat × V) → Option t.T
  | x, [] => some x
  | x, (i, v) :: r => (setField i t x v).bind fun y => setParts t y r
def setElems (t : Ty) : List t.T → List (Nat × V) → Option (List t.T)
  | xs, [] => some xs
  | xs, (i, v) :: r => if Nat.blt i xs.length then (coe t v).bind fun y => setElems t (xs.set i y) r else none
def strips : List (Nat × V) → List Prop × List (Nat × V)
  | [] => ([], [])
  | (i, v) :: r => ((strip v).1 ++ (strips r).1, (i, (strip v).2) :: (strips r).2)
def buildV (T : Tbl) (t : TypeId) (parts : List (Nat × V)) : Res :=
  match tget T t with
  | some (.pair a b) => (match setParts (.pair a b) (zeroX (.pair a b)) (strips parts).2 with | some x => some ((strips parts).1, ⟨.pair a b, x⟩) | none => none)
  | some (.arr n e) => (match setElems e (List.replicate n (zeroX e)) (strips parts).2 with | some x => some ((strips parts).1, ⟨.arr n e, x⟩) | none => none)
  | _ => none
def buildSliceV (T : Tbl) (t : TypeId) (len : Nat) (parts : List (Nat × V)) : Option (List Prop × (t : Ty) × List t.T) :=
  match tget T t with
  | some (.slice e) => if Nat.ble (len * e.size) 16777216 && Nat.blt 0 e.size then (match setElems e (List.replicate len (zeroX e)) (strips parts).2 with | some x => some ((strips parts).1, ⟨e, x⟩) | none => none) else none
  | _ => none
def minV (op : Builtin) : List V → Res
  | [⟨.int .i64, x⟩, ⟨.int .i64, y⟩] => match op with
    | .min => some ([], ⟨.int .i64, min (x : Int) y⟩)
    | .max => some ([], ⟨.int .i64, max (x : Int) y⟩)
    | _ => none
  | _ => none
/-- operations that only read and compute (new memory may be made) -/
noncomputable def pOp (T : Tbl) (Q : List TypeId) (E : Owns) (F : Frame) : Op → Res
  | .move x => match evO F x with
    | ⟨t, y⟩ => some ([], ⟨t, y⟩)
  | .assign x => match evO F x with
    | ⟨t, y⟩ => some ([], ⟨t, y⟩)
  | .pick c a b => pickV (evO F c) (evO F a) (evO F b)
  | .binOp op xt x y _ => pre ((strip (evO F x)).1 ++ (strip (evO F y)).1) (binV T Q op xt (strip (evO F x)).2 (strip (evO F y)).2)
  | .unOp op _ x => pre ((strip (evO F x)).1) (unV op (strip (evO F x)).2)
  | .convert s d x => pre ((strip (evO F x)).1) (cvV T s d (dat E (strip (evO F x)).2))
  | .index xt x i => pre ((strip (evO F x)).1 ++ (strip (evO F i)).1) (indexV T xt (strip (evO F x)).2 (strip (evO F i)).2)
  | .indexAddr xt x i => pre ((strip (evO F x)).1 ++ (strip (evO F i)).1) (indexAddrV T E xt (strip (evO F x)).2 (strip (evO F i)).2)
  | .load t x => pre ((strip (evO F x)).1) (loadV T E t (strip (evO F x)).2)
  | .field xt x n => pre ((strip (evO F x)).1) (fieldsV T xt (strip (evO F x)).2 n)
  | .fieldAddr s x n => pre ((strip (evO F x)).1) (fieldAddrV T s (strip (evO F x)).2 n)
  | .extract x n => match strip (evO F x) with
    | (p, v) => withP p (tupV n v.t v.x)
  | .slice xt x lo hi none => pre ((strip (evO F x)).1) (sliceV T xt (strip (evO F x)).2 (lo.map (evO F)) (hi.map (evO F)))
  | .build t parts => buildV T t (parts.toList.map fun p => (p.1, evO F p.2))
  | .buildSlice t len parts => match buildSliceV T t len (parts.toList.map fun p => (p.1, evO F p.2)) with
    | some (p, ⟨e, xs⟩) => some (p, ⟨.slice e, xs⟩)
    | none => none
  | .nilCheck x => match strip (evO F x) with
    | (p, ⟨.vptr t, y⟩) => some (p, ⟨.vptr t, y⟩)
    | (p, ⟨.optr t, y⟩) => some (p, ⟨.optr t, y⟩)
    | _ => none
  | .call c => match c.callee with
    | .builtin .len => match c.args.toList, c.argTypes.toList with
      | [x], [t] => pre ((strip (evO F x)).1) (lenV T t (dat E (strip (evO F x)).2))
      | _, _ => none
    | .builtin .min => pre ((c.args.toList.map fun x => (strip (evO F x)).1).flatten) (minV .min (c.args.toList.map fun x => (strip (evO F x)).2))
    | .builtin .max => pre ((c.args.toList.map fun x => (strip (evO F x)).1).flatten) (minV .max (c.args.toList.map fun x => (strip (evO F x)).2))
    | _ => none
  | _ => none
end Go.Proofs.YtpepbnieocdpbaaDoor
