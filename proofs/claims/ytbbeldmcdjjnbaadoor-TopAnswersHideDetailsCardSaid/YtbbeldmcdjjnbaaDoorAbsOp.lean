/-
  Operations that read and compute, on typed plain values: what each yields and under which conditions. No program is read here.
  Operations that read and compute: the model's operation yields what stands for the plain value (first part: operands, arithmetic, conversions, reading). No program is read here.
  Operations that read and compute: the model's operation yields what stands for the plain value (second part: conversions, parts, slices, literals). No program is read here.
  Operations that read and compute: the model's operation yields what stands for the plain value (third part: addresses, loads, fields, slices, literals). No program is read here.
  Operations that read and compute: the model's operation yields what stands for the plain value (fourth part: lengths, slices, literals; all of them together). No program is read here.
  Operations that read and compute: the model's operation yields what stands for the plain value (fifth part: literals; all of them together). No program is read here.
  Operations that read and compute, all of them: the model's operation yields what stands for the plain value. No program is read here.
-/
import Derived.Test.YtbbeldmcdjjnbaaDoorAbsTab
import Derived.Laws.IdiomCopy
import Derived.Great.BuildSlice
namespace Go.Proofs.YtbbeldmcdjjnbaaDoor
open Go Go.RowKit
set_option linter.unusedSimpArgs false
set_option linter.unusedVariables false

abbrev Tbl := List (TypeId × Ty)
def tget : List (TypeId × Ty) → TypeId → Option Ty
  | [], _ => none
  | (s, τ) :: r, t => bif Nat.beq s t then some τ else tget r t
/-- the type t is met as τ -/
def tis (T : Tbl) (t : TypeId) (τ : Ty) : Bool :=
  match tget T t with
  | some σ => σ.beq τ
  | none => false
structure TOk (P : Program) (T : Tbl) (Q : List TypeId) : Prop where
  lay : ∀ t τ, tget T t = some τ → Lay P τ (.inl t)
  cmp : ∀ t, Q.any (Nat.beq t) = true → P.eqGuardType P.depth t = false ∧ ∀ τ, tget T t = some τ → Cmp P τ (.inl t) = true ∧ τ.depth ≤ 10000
theorem TOk.is {P : Program} {T : Tbl} {Q : List TypeId} (h : TOk P T Q) {t : TypeId} {τ : Ty} (ht : tis T t τ = true) : Lay P τ (.inl t) := by
  unfold tis at ht
  split at ht
  · rename_i σ hσ
    rw [← Ty.beq_eq ht]
    exact h.lay _ _ hσ
  · cases ht
theorem tis_get {T : Tbl} {t : TypeId} {τ : Ty} (ht : tis T t τ = true) : tget T t = some τ := by
  unfold tis at ht
  split at ht
  · rename_i σ hσ
    rw [hσ, Ty.beq_eq ht]
  · cases ht

/-! ### operands -/
/-- an integer's constant, if it is one of its kind -/
def evI : (k : IntKind) → Int → V
  | .u8, n => if encI .u8 (UInt8.ofNat n.toNat) = n then ⟨.int .u8, UInt8.ofNat n.toNat⟩ else ⟨.lit, .int .u8 n⟩
  | .u16, n => if encI .u16 (BitVec.ofNat 16 n.toNat) = n then ⟨.int .u16, BitVec.ofNat 16 n.toNat⟩ else ⟨.lit, .int .u16 n⟩
  | .u32, n => if encI .u32 (BitVec.ofNat 32 n.toNat) = n then ⟨.int .u32, BitVec.ofNat 32 n.toNat⟩ else ⟨.lit, .int .u32 n⟩
  | .u64, n => if encI .u64 (BitVec.ofNat 64 n.toNat) = n then ⟨.int .u64, BitVec.ofNat 64 n.toNat⟩ else ⟨.lit, .int .u64 n⟩
  | .i8, n => ⟨.int .i8, n⟩
  | .i16, n => ⟨.int .i16, n⟩
  | .i32, n => ⟨.int .i32, n⟩
  | .i64, n => ⟨.int .i64, n⟩
def evC : Value → V
  | .bool b => ⟨.bool, b⟩
  | .int k n => evI k n
  | .string s => bif Nat.ble s.data.toList.length 1000000 then ⟨.str, s.data.toList⟩ else ⟨.lit, .string s⟩
  | v => ⟨.lit, v⟩
def evO (F : Frame) : Operand → V
  | .tmp s => Frame.get F s
  | .const v => evC v
  | .global g => ⟨.lit, .pointer (some ⟨g, 0, none⟩)⟩
  | .func f => ⟨.lit, .func (.func f) #[] #[]⟩
/-- a value that is known only if something holds -/
def strip : V → List Prop × V
  | ⟨.cond t, (c, y)⟩ => ([c = true], ⟨t, y⟩)
  | v => ([], v)
/-- a slice of the call's own, read as a list -/
def dat (E : Owns) : V → V
  | ⟨.obuf _, i⟩ => match Owns.get E i with
    | some (.buf _ t xs) => ⟨.slice t, xs⟩
    | _ => ⟨.junk, ()⟩
  | v => v
def impP (c : Bool) : List Prop → List Prop
  | [] => []
  | p :: r => [c = true → allP (p :: r)]
/-- as a value of a type -/
def tyEq? (s t : Ty) : Option (PLift (s = t)) := if h : s.beq t = true then some ⟨Ty.beq_eq h⟩ else none
def nilAs : (t : Ty) → V → Option t.T
  | .slice _, ⟨.lit, .slice none 0 0⟩ => some []
  | _, _ => none
def castO : (s t : Ty) → s.T → Option (PLift (s = t)) → Option t.T
  | _, _, x, some ⟨rfl⟩ => some x
  | _, _, _, none => none
def coeA : (s t : Ty) → s.T → Option (PLift (s = t)) → Option t.T
  | _, _, x, some ⟨rfl⟩ => some x
  | s, t, x, none => nilAs t ⟨s, x⟩
def coe (t : Ty) (v : V) : Option t.T :=
  match v with
  | ⟨s, x⟩ => coeA s t x (tyEq? s t)

/-! ### what operations yield -/
abbrev Res := Option (List Prop × V)
/-- more conditions ahead -/
def pre : List Prop → Option (List Prop × V) → Res
  | [], o => o
  | a :: A, o => match pre A o with
    | some (p, v) => some (a :: p, v)
    | none => none
def asI (k : IntKind) (o : Option (List Prop × IntT k)) : Res :=
  match o with
  | some (p, z) => some (p, ⟨.int k, z⟩)
  | none => none
def asT (t : Ty) (o : Option (List Prop × t.T)) : Res :=
  match o with
  | some (p, z) => some (p, ⟨t, z⟩)
  | none => none
def asBool' (o : Option Bool) : Res :=
  match o with
  | some b => some ([], ⟨.bool, b⟩)
  | none => none
def withP (p : List Prop) (o : Option V) : Res :=
  match o with
  | some v => some (p, v)
  | none => none
def pickA (cb : Bool) : (s t : Ty) → s.T → t.T → Option (PLift (t = s)) → Res
  | s, _, x, y, some ⟨rfl⟩ => some ([], ⟨s, bif cb then x else y⟩)
  | _, _, _, _, none => none
def pickB (cb : Bool) (a b : V) : Res :=
  match strip a, strip b with
  | (p, ⟨s, x⟩), (q, ⟨t, y⟩) => pre (impP cb p) (pre (impP (!cb) q) (pickA cb s t x y (tyEq? t s)))
def pickV (c a b : V) : Res :=
  match c with
  | ⟨.bool, cb⟩ => pickB cb a b
  | ⟨.cond .bool, (k, cb)⟩ => pre [k = true] (pickB cb a b)
  | _ => none
def isCmp : BinOp → Bool
  | .eql | .neq | .lss | .leq | .gtr | .geq => true
  | _ => false
def encS : (k : IntKind) → IntT k → Option Int
  | .u8, x => some ((UInt8.toNat x : Nat) : Int)
  | .u16, x => some ((BitVec.toNat (w := 16) x : Nat) : Int)
  | .u32, x => some ((BitVec.toNat (w := 32) x : Nat) : Int)
  | .u64, x => some ((BitVec.toNat (w := 64) x : Nat) : Int)
  | .i8, x => some x
  | .i16, x => some x
  | .i32, x => some x
  | .i64, x => some x
theorem encS_eq (k : IntKind) (x : IntT k) : encS k x = some (encI k x) := by cases k <;> rfl
def numV : V → Option Int
  | ⟨.int k, x⟩ => encS k x
  | _ => none
def kEq? (l k : IntKind) : Option (PLift (l = k)) := if h : l = k then some ⟨h⟩ else none
def binI (op : BinOp) : (k l : IntKind) → IntT k → IntT l → Option (PLift (l = k)) → Res
  | k, _, x, y, some ⟨rfl⟩ => if isCmp op then (match encS k x, encS k y with | some a, some b => asBool' (cmpI op a b) | _, _ => none) else asI k (arI op k x y)
  | _, _, _, _, none => none
noncomputable def binE (op : BinOp) : (t s : Ty) → t.T → s.T → Option (PLift (s = t)) → Res
  | t, _, x, y, some ⟨rfl⟩ => match op with
    | .eql => some ([], ⟨.bool, eqb t x y⟩)
    | .neq => some ([], ⟨.bool, !eqb t x y⟩)
    | _ => none
  | _, _, _, _, none => none
noncomputable def binV (T : Tbl) (Q : List TypeId) (op : BinOp) (xt : TypeId) (a b : V) : Res :=
  match a, b with
  | ⟨.int k, x⟩, ⟨.int l, y⟩ =>
    match op with
    | .shl => match encS l y with
      | some m => asI k (shI .shl k x m)
      | none => none
    | .shr => match encS l y with
      | some m => asI k (shI .shr k x m)
      | none => none
    | op => binI op k l x y (kEq? l k)
  | ⟨.str, x⟩, ⟨.str, y⟩ =>
    match op with
    | .add => some ([List.length x + List.length y ≤ maxLen], ⟨.str, (x : List UInt8) ++ y⟩)
    | .eql => some ([], ⟨.bool, eqb .str x y⟩)
    | .neq => some ([], ⟨.bool, !eqb .str x y⟩)
    | .lss => some ([], ⟨.bool, Op.bytesLess x y⟩)
    | .leq => some ([], ⟨.bool, Op.bytesLess x y || eqb .str x y⟩)
    | .gtr => some ([], ⟨.bool, !(Op.bytesLess x y || eqb .str x y)⟩)
    | .geq => some ([], ⟨.bool, !Op.bytesLess x y⟩)
    | _ => none
  | ⟨.bool, x⟩, ⟨.bool, y⟩ =>
    match op with
    | .eql => if tis T xt .bool then some ([], ⟨.bool, eqb .bool x y⟩) else none
    | .neq => if tis T xt .bool then some ([], ⟨.bool, !eqb .bool x y⟩) else none
    | _ => none
  | ⟨t, x⟩, ⟨s, y⟩ => if (t.isAgg && tis T xt t && Q.any (Nat.beq xt)) = true then binE op t s x y (tyEq? s t) else none
def unV (op : UnOp) (a : V) : Res :=
  match a with
  | ⟨.bool, b⟩ => match op with | .not => some ([], ⟨.bool, !b⟩) | _ => none
  | ⟨.int k, x⟩ => asI k (unI op k x)
  | _ => none
def cvV (T : Tbl) (src dst : TypeId) (a : V) : Res :=
  match a, tget T dst with
  | ⟨.int k, x⟩, some (.int l) => if tis T src (.int k) then asI l (cvI k l x) else none
  | ⟨.str, x⟩, some .str => if tis T src .str then some ([], ⟨.str, x⟩) else none
  | ⟨.str, x⟩, some (.slice (.int .u8)) => if tis T src .str then some ([], ⟨.slice (.int .u8), x⟩) else none
  | ⟨.slice (.int .u8), x⟩, some .str => if tis T src (.slice (.int .u8)) then some ([], ⟨.str, x⟩) else none
  | _, _ => none
def indexV (T : Tbl) (xt : TypeId) (a i : V) : Res :=
  match a, numV i with
  | ⟨.arr n t, xs⟩, some i => if tis T xt (.arr n t) then some ([0 ≤ i, i < n], ⟨t, List.getD xs i.toNat (zeroX t)⟩) else none
  | ⟨.str, l⟩, some i => if tis T xt .str then some ([0 ≤ i, i < (List.length l : Nat)], ⟨.int .u8, List.getD l i.toNat 0⟩) else none
  | _, _ => none
def indexAddrV (T : Tbl) (E : Owns) (xt : TypeId) (a i : V) : Res :=
  match a, numV i with
  | ⟨.slice t, xs⟩, some i => if tis T xt (.slice t) then some ([0 ≤ i, i < (List.length xs : Nat)], ⟨.vptr t, List.getD xs i.toNat (zeroX t)⟩) else none
  | ⟨.vptr (.arr n t), xs⟩, some i => if tis T xt (.arr n t) then some ([0 ≤ i, i < n], ⟨.vptr t, List.getD xs i.toNat (zeroX t)⟩) else none
  | ⟨.optr (.arr n t), ⟨o, r, p⟩⟩, some i => if tis T xt (.arr n t) then some ([0 ≤ i, i < n], ⟨.optr t, ⟨o, r, .idx p i.toNat⟩⟩) else none
  | ⟨.obuf _, j⟩, some i =>
    match Owns.get E j with
    | some (.buf _ t xs) => if tis T xt (.slice t) then some ([0 ≤ i, i < (List.length xs : Nat)], ⟨.optr t, ⟨j, .slice t, .elm i.toNat⟩⟩) else none
    | _ => none
  | _, _ => none
def Path.get : {r t : Ty} → Path r t → r.T → t.T
  | _, _, .here, x => x
  | _, _, .fst p, x => (p.get x).1
  | _, _, .snd p, x => (p.get x).2
  | _, _, .idx (t := t) p k, x => List.getD (p.get x) k (zeroX t)
  | _, _, .elm (t := t) k, x => List.getD x k (zeroX t)
def Path.vcs : {r t : Ty} → Path r t → r.T → List Prop
  | _, _, .here, _ => []
  | _, _, .fst p, x => p.vcs x
  | _, _, .snd p, x => p.vcs x
  | _, _, .idx (n := n) p k, x => p.vcs x ++ [k < n]
  | _, _, .elm k, x => [k < List.length x]
def Path.set : {r t : Ty} → Path r t → r.T → t.T → r.T
  | _, _, .here, _, y => y
  | _, _, .fst p, x, y => p.set x (y, (p.get x).2)
  | _, _, .snd p, x, y => p.set x ((p.get x).1, y)
  | _, _, .idx p k, x, y => p.set x (List.set (p.get x) k y)
  | _, _, .elm k, x, y => List.set x k y
def Path.getO : {r t : Ty} → Path r t → r.T → Option t.T
  | _, _, .here, x => some x
  | _, _, .fst p, x => match p.getO x with
    | some z => some z.1
    | none => none
  | _, _, .snd p, x => match p.getO x with
    | some z => some z.2
    | none => none
  | _, _, .idx (t := t) p k, x => match p.getO x with
    | some z => some (List.getD z k (zeroX t))
    | none => none
  | _, _, .elm (t := t) k, x => some (List.getD x k (zeroX t))
theorem Path.getO_eq : ∀ {r t : Ty} (p : Path r t) (x : r.T), p.getO x = some (p.get x) := by
  intro r t p
  induction p with
  | here => intro x; rfl
  | fst p ih => intro x; simp only [Path.getO, ih, Path.get]
  | snd p ih => intro x; simp only [Path.getO, ih, Path.get]
  | idx p k ih => intro x; simp only [Path.getO, ih, Path.get]
  | elm k => intro x; rfl
def Path.setO : {r t : Ty} → Path r t → r.T → t.T → Option r.T
  | _, _, .here, _, y => some y
  | _, _, .fst p, x, y => match p.getO x with
    | some z => p.setO x (y, z.2)
    | none => none
  | _, _, .snd p, x, y => match p.getO x with
    | some z => p.setO x (z.1, y)
    | none => none
  | _, _, .idx p k, x, y => match p.getO x with
    | some z => p.setO x (List.set z k y)
    | none => none
  | _, _, .elm k, x, y => some (List.set x k y)
theorem Path.setO_eq : ∀ {r t : Ty} (p : Path r t) (x : r.T) (y : t.T), p.setO x y = some (p.set x y) := by
  intro r t p
  induction p with
  | here => intro x y; rfl
  | fst p ih => intro x y; simp only [Path.setO, Path.getO_eq, ih, Path.set]
  | snd p ih => intro x y; simp only [Path.setO, Path.getO_eq, ih, Path.set]
  | idx p k ih => intro x y; simp only [Path.setO, Path.getO_eq, ih, Path.set]
  | elm k => intro x y; rfl
def Path.isElm : {r t : Ty} → Path r t → Bool
  | _, _, .here => false
  | _, _, .fst p => p.isElm
  | _, _, .snd p => p.isElm
  | _, _, .idx p _ => p.isElm
  | _, _, .elm _ => true
/-! ### variables that hold handles: one value a cell -/
def Ty.noArr : Ty → Bool
  | .arr _ _ => false
  | .pair a b => a.noArr && b.noArr
  | _ => true
def Ty.leafy : Ty → Bool
  | .optr _ | .hptr | .vptr _ | .clo _ _ | .mapL => true
  | .hcons _ b => b.leafy
  | t => t.data && t.noArr
def leavesT : (t : Ty) → t.T → List V
  | .pair a b, x => leavesT a x.1 ++ leavesT b x.2
  | .unit, _ => []
  | .hcons a b, x => ⟨a, x.1⟩ :: leavesT b x.2
  | t, x => [⟨t, x⟩]
def leavesLit : Value → Option (List V)
  | .agg cs => if cs.toList.all Value.oneCell' then some (cs.toList.map evC) else none
  | .tuple _ => none
  | y => some [⟨.lit, y⟩]
/-- the cells of a value, one by one -/
def leavesV (E : Owns) : V → Option (List V)
  | ⟨.lit, y⟩ => leavesLit y
  | ⟨.obuf t, j⟩ => match Owns.get E j with
    | some (.buf _ _ _) => some [⟨.obuf t, j⟩]
    | _ => none
  | ⟨t, x⟩ => if t.leafy = true then some (leavesT t x) else none
/-- a value of a data type out of cells -/
def unD : (t : Ty) → List V → Option (t.T × List V)
  | .pair a b, vs => match unD a vs with
    | some (x, r) => match unD b r with
      | some (y, r') => some ((x, y), r')
      | none => none
    | none => none
  | .unit, vs => some ((), vs)
  | .arr _ _, _ => none
  | t, v :: r => match coe t v with
    | some x => some (x, r)
    | none => none
  | _, [] => none
/-- cells written over -/
def putH (E : Owns) (size k : Nat) (vs : List V) (v : V) : Option (List V) :=
  match leavesV E v with
  | some ls => if Nat.beq ls.length size && Nat.ble (k + size) vs.length then some (vs.take k ++ ls ++ vs.drop (k + size)) else none
  | none => none
/-- the plain value of something of the call's own -/
def OObj.v : OObj → V
  | .box t x => ⟨t, x⟩
  | .buf _ t xs => ⟨.slice t, xs⟩
  | .hbox _ => ⟨.junk, ()⟩
def rootX (r : Ty) (o : OObj) : Option r.T :=
  match o.v with
  | ⟨s, x⟩ => castO s r x (tyEq? s r)
def loadV (T : Tbl) (E : Owns) (t : TypeId) (a : V) : Res :=
  match a with
  | ⟨.vptr τ, x⟩ => if tis T t τ then some ([], ⟨τ, x⟩) else none
  | ⟨.cptr _ _ τ, x⟩ => if tis T t τ then some ([], ⟨τ, x⟩) else none
  | ⟨.optr τ, ⟨i, r, p⟩⟩ =>
    match Owns.get E i with
    | some o => if tis T t τ && (Path.isElm p == o.isBuf) then (match rootX r o with | some y => (match Path.getO p y with | some z => some (Path.vcs p y, ⟨τ, z⟩) | none => none) | none => none) else none
    | none => none
  | ⟨.hptr, (i, k)⟩ =>
    match Owns.get E i with
    | some (.hbox vs) => match tget T t with
      | some τ => if τ.isAgg = true then (match unD τ (vs.drop k) with | some (x, _) => some ([], ⟨τ, x⟩) | none => none) else (match vs.drop k with | v :: _ => if Nat.beq τ.size 1 then some ([], ⟨v.t, v.x⟩) else none | [] => none)
      | none => none
    | _ => none
  | _ => none
def fieldsV (T : Tbl) (xt : TypeId) (a : V) (n : Nat) : Res :=
  if tis T xt a.t then withP [] (fieldV n a.t a.x) else none
def fieldP : Nat → (r τ : Ty) → Path r τ → Option ((t : Ty) × Path r t)
  | 0, _, .pair a _, p => some ⟨a, .fst p⟩
  | n + 1, r, .pair _ b, p => fieldP n r b (.snd p)
  | _, _, _, _ => none
def fieldAddrV (T : Tbl) (s : TypeId) (a : V) (n : Nat) : Res :=
  match a with
  | ⟨.vptr τ, x⟩ => if tis T s τ then (match fieldV n τ x with | some v => if Nat.blt 0 v.t.size then some ([], ⟨.vptr v.t, v.x⟩) else none | none => none) else none
  | ⟨.cptr _ _ τ, x⟩ => if tis T s τ then (match fieldV n τ x with | some v => if Nat.blt 0 v.t.size then some ([], ⟨.vptr v.t, v.x⟩) else none | none => none) else none
  | ⟨.optr τ, ⟨i, r, p⟩⟩ => if tis T s τ then (match fieldP n r τ p with | some ⟨t, q⟩ => if Nat.blt 0 t.size then some ([], ⟨.optr t, ⟨i, r, q⟩⟩) else none | none => none) else none
  | ⟨.hptr, (i, k)⟩ => match tget T s with
    | some τ => (match fieldP n τ τ .here with | some ⟨t, q⟩ => if Nat.blt 0 t.size then some ([], ⟨.hptr, (i, k + q.off)⟩) else none | none => none)
    | none => none
  | _ => none
def tupV : Nat → (t : Ty) → t.T → Option V
  | 0, .tup a _, x => some ⟨a, x.1⟩
  | n + 1, .tup _ b, x => tupV n b x.2
  | _, _, _ => none
def lenV (T : Tbl) (xt : TypeId) (a : V) : Res :=
  match a with
  | ⟨.str, l⟩ => if tis T xt .str then some ([], ⟨.int .i64, ((List.length l : Nat) : Int)⟩) else none
  | ⟨.slice t, l⟩ => if tis T xt (.slice t) then some ([], ⟨.int .i64, ((List.length l : Nat) : Int)⟩) else none
  | ⟨.arr n t, _⟩ => if tis T xt (.arr n t) then some ([], ⟨.int .i64, ((n : Nat) : Int)⟩) else none
  | _ => none
def cutL {α : Type} (xs : List α) : Option V → Option V → Option (List Prop × List α)
  | none, none => some ([], xs)
  | some v, none => match numV v with
    | some i => some ([0 ≤ i, i ≤ (xs.length : Nat)], xs.drop i.toNat)
    | none => none
  | none, some v => match numV v with
    | some j => some ([0 ≤ j, j ≤ (xs.length : Nat)], xs.take j.toNat)
    | none => none
  | some v, some u => match numV v, numV u with
    | some i, some j => some ([0 ≤ i, i ≤ j, j ≤ (xs.length : Nat)], (xs.take j.toNat).drop i.toNat)
    | _, _ => none
def sliceV (T : Tbl) (xt : TypeId) (a : V) (lo hi : Option V) : Res :=
  match a with
  | ⟨.str, l⟩ => if tis T xt .str then asT .str (cutL l lo hi) else none
  | ⟨.slice t, xs⟩ => if tis T xt (.slice t) then asT (.slice t) (cutL xs lo hi) else none
  | ⟨.vptr (.arr n t), xs⟩ => if tis T xt (.arr n t) && Nat.ble n 1000000000 then asT (.slice t) (cutL xs lo hi) else none
  | _ => none
/-- the conditions of a bound -/
def optP (F : Frame) : Option Operand → List Prop
  | none => []
  | some y => (strip (evO F y)).1
def setField : Nat → (t : Ty) → t.T → V → Option t.T
  | 0, .pair a _, x, v => match coe a v with | some y => some (y, x.2) | none => none
  | n + 1, .pair _ b, x, v => match setField n b x.2 v with | some y => some (x.1, y) | none => none
  | _, _, _, _ => none
def setParts (t : Ty) : t.T → List (Nat × V) → Option t.T
  | x, [] => some x
  | x, (i, v) :: r => (setField i t x v).bind fun y => setParts t y r
def setElems (t : Ty) : List t.T → List (Nat × V) → Option (List t.T)
  | xs, [] => some xs
  | xs, (i, v) :: r => if Nat.blt i xs.length then (coe t v).bind fun y => setElems t (xs.set i y) r else none
def strips : List (Nat × V) → List Prop × List (Nat × V)
  | [] => ([], [])
  | (i, v) :: r => ((strip v).1 ++ (strips r).1, (i, (strip v).2) :: (strips r).2)
def buildV (T : Tbl) (t : TypeId) (parts : List (Nat × V)) : Res :=
  match tget T t with
  | some (.pair a b) => (match setParts (.pair a b) (zeroX (.pair a b)) (strips parts).2 with | some x => some ((strips parts).1, ⟨.pair a b, x⟩) | none => none)
  | some (.arr n e) => (match setElems e (List.replicate n (zeroX e)) (strips parts).2 with | some x => some ((strips parts).1, ⟨.arr n e, x⟩) | none => none)
  | _ => none
def buildSliceV (T : Tbl) (t : TypeId) (len : Nat) (parts : List (Nat × V)) : Option (List Prop × (t : Ty) × List t.T) :=
  match tget T t with
  | some (.slice e) => if Nat.ble (len * e.size) 16777216 && Nat.blt 0 e.size then (match setElems e (List.replicate len (zeroX e)) (strips parts).2 with | some x => some ((strips parts).1, ⟨e, x⟩) | none => none) else none
  | _ => none
def minV (op : Builtin) : List V → Res
  | [⟨.int .i64, x⟩, ⟨.int .i64, y⟩] => match op with
    | .min => some ([], ⟨.int .i64, min (x : Int) y⟩)
    | .max => some ([], ⟨.int .i64, max (x : Int) y⟩)
    | _ => none
  | _ => none
/-- what a function literal takes along -/
def cloV : List V → Option ((t : Ty) × t.T)
  | [] => some ⟨.unit, ()⟩
  | ⟨.vptr a, x⟩ :: r => match cloV r with
    | some ⟨t, y⟩ => some ⟨.tup (.vptr a) t, (x, y)⟩
    | none => none
  | _ :: _ => none
/-- a key of a map, as a value of the model -/
def keyV : V → Option Value
  | ⟨.int .i64, x⟩ => some (.int .i64 x)
  | ⟨.str, x⟩ => some (.string ⟨List.toArray x⟩)
  | _ => none
def sameK : Value → Value → Option Bool
  | .int k x, .int l y => if k = l then some (decide (x = y)) else none
  | .string x, .string y => some (decide (x.data.toList = y.data.toList))
  | _, _ => none
def findL (k : Value) : List (Value × Value) → Option (Option Value)
  | [] => some none
  | (j, v) :: r => match sameK k j with
    | some b => bif b then some (some v) else findL k r
    | none => none
/-- operations that only read and compute (new memory may be made) -/
noncomputable def pOp (T : Tbl) (Q : List TypeId) (E : Owns) (F : Frame) : Op → Res
  | .move x => match evO F x with
    | ⟨t, y⟩ => some ([], ⟨t, y⟩)
  | .assign x => match evO F x with
    | ⟨t, y⟩ => some ([], ⟨t, y⟩)
  | .pick c a b => pickV (evO F c) (evO F a) (evO F b)
  | .binOp op xt x y _ => pre ((strip (evO F x)).1 ++ (strip (evO F y)).1) (binV T Q op xt (strip (evO F x)).2 (strip (evO F y)).2)
  | .unOp op _ x => pre ((strip (evO F x)).1) (unV op (strip (evO F x)).2)
  | .convert s d x => pre ((strip (evO F x)).1) (cvV T s d (dat E (strip (evO F x)).2))
  | .index xt x i => pre ((strip (evO F x)).1 ++ (strip (evO F i)).1) (indexV T xt (strip (evO F x)).2 (strip (evO F i)).2)
  | .indexAddr xt x i => pre ((strip (evO F x)).1 ++ (strip (evO F i)).1) (indexAddrV T E xt (strip (evO F x)).2 (strip (evO F i)).2)
  | .load t x => pre ((strip (evO F x)).1) (loadV T E t (strip (evO F x)).2)
  | .field xt x n => pre ((strip (evO F x)).1) (fieldsV T xt (strip (evO F x)).2 n)
  | .fieldAddr s x n => pre ((strip (evO F x)).1) (fieldAddrV T s (strip (evO F x)).2 n)
  | .extract x n => match strip (evO F x) with
    | (p, v) => withP p (tupV n v.t v.x)
  | .slice xt x lo hi none => pre ((strip (evO F x)).1 ++ (optP F lo ++ optP F hi)) (sliceV T xt (strip (evO F x)).2 (lo.map fun y => (strip (evO F y)).2) (hi.map fun y => (strip (evO F y)).2))
  | .build t parts => buildV T t (parts.toList.map fun p => (p.1, evO F p.2))
  | .buildSlice t len parts => match buildSliceV T t len (parts.toList.map fun p => (p.1, evO F p.2)) with
    | some (p, ⟨e, xs⟩) => some (p, ⟨.slice e, xs⟩)
    | none => none
  | .makeFunc (.func f) first caps => match first.toList, cloV (caps.toList.map (evO F)) with
    | [], some ⟨t, x⟩ => some ([], ⟨.clo f t, x⟩)
    | _, _ => none
  | .nilCheck x => match strip (evO F x) with
    | (p, ⟨.vptr t, y⟩) => some (p, ⟨.vptr t, y⟩)
    | (p, ⟨.optr t, y⟩) => some (p, ⟨.optr t, y⟩)
    | (p, ⟨.hptr, y⟩) => some (p, ⟨.hptr, y⟩)
    | _ => none
  | .call c => match c.callee with
    | .builtin .len => match c.args.toList, c.argTypes.toList with
      | [x], [t] => pre ((strip (evO F x)).1) (lenV T t (dat E (strip (evO F x)).2))
      | _, _ => none
    | .builtin .min => pre ((c.args.toList.map fun x => (strip (evO F x)).1).flatten) (minV .min (c.args.toList.map fun x => (strip (evO F x)).2))
    | .builtin .max => pre ((c.args.toList.map fun x => (strip (evO F x)).1).flatten) (minV .max (c.args.toList.map fun x => (strip (evO F x)).2))
    | _ => none
  | _ => none
end Go.Proofs.YtbbeldmcdjjnbaaDoor
namespace Go.Proofs.YtbbeldmcdjjnbaaDoor
open Go Go.RowKit
set_option linter.unusedSimpArgs false
set_option linter.unusedVariables false

def Yields (P : Program) (s : Sem Value) (w : World) (O : Nat → Prop) (β : Nat → Value) (r : V) : Prop :=
  ∃ u w', s.run P w = .ok u w' ∧ Below w.heap.size w w' ∧ RepV w' O β r.t r.x u
section
variable {P : Program} {w : World} {O O' : Nat → Prop} {β : Nat → Value} {T : Tbl} {Q : List TypeId} {E : Owns} {F : Frame} {B : Nat} {a : Act}

theorem Yields.still {s : Sem Value} {r : V} {u : Value} (h : s.run P w = .ok u w) (hr : RepV w O β r.t r.x u) : Yields P s w O β r := ⟨u, w, h, Below.refl _ _, hr⟩
theorem repV_data {t : Ty} (ht : t.data = true) {x : t.T} {u : Value} : RepV w O β t x u ↔ RepD w O t x u := by
  cases t <;> first | exact Iff.rfl | cases ht
theorem evC_rep (v : Value) : RepV w O β (evC v).t (evC v).x v := by
    cases v with
    | bool b => exact rfl
    | int k n =>
      have key : ∀ (k : IntKind) (x : IntT k), RepV w O β (if encI k x = n then (⟨.int k, x⟩ : V) else ⟨.lit, .int k n⟩).t (if encI k x = n then (⟨.int k, x⟩ : V) else ⟨.lit, .int k n⟩).x (.int k n) := by
        intro k x
        by_cases h : encI k x = n
        · rw [show (if encI k x = n then (⟨.int k, x⟩ : V) else ⟨.lit, .int k n⟩) = ⟨.int k, x⟩ from if_pos h]
          show [Value.int k n] = [Value.int k (encI k x)]
          rw [h]
        · rw [show (if encI k x = n then (⟨.int k, x⟩ : V) else ⟨.lit, .int k n⟩) = ⟨.lit, .int k n⟩ from if_neg h]
          exact rfl
      cases k with
      | u8 => exact key .u8 _
      | u16 => exact key .u16 _
      | u32 => exact key .u32 _
      | u64 => exact key .u64 _
      | i8 => exact (rfl : [Value.int .i8 n] = [Value.int .i8 n])
      | i16 => exact (rfl : [Value.int .i16 n] = [Value.int .i16 n])
      | i32 => exact (rfl : [Value.int .i32 n] = [Value.int .i32 n])
      | i64 => exact (rfl : [Value.int .i64 n] = [Value.int .i64 n])
    | string s =>
      simp only [evC]
      cases h : Nat.ble s.data.toList.length 1000000 with
      | true =>
        have := Nat.le_of_ble_eq_true h
        exact ⟨by simp, Nat.le_trans this (by simp [maxLen])⟩
      | false => exact rfl
    | _ => exact rfl
theorem evO_rep {x : Operand} (hx : ∀ s, x = .tmp s → RepV w O β (Frame.get F s).t (Frame.get F s).x (a.tmps.getD s undef)) : RepV w O β (evO F x).t (evO F x).x (a.eval x) := by
  cases x with
  | tmp s => exact hx s rfl
  | global g => exact rfl
  | func f => exact rfl
  | const v => exact evC_rep v
theorem strip_rep {v : V} {u : Value} (h : RepV w O β v.t v.x u) (hp : allP (strip v).1) : RepV w O β (strip v).2.t (strip v).2.x u := by
  obtain ⟨t, x⟩ := v
  cases t <;> first | exact h | exact h.1 hp
/-- by the plain list, whoever may write -/
theorem dat_rep (hown : ∀ i o, Owns.get E i = some o → OwnRep w O β B (β i) o) {v : V} {u : Value} (h : RepV w O β v.t v.x u) : RepV w (fun _ => False) β (dat E v).t (dat E v).x u := by
  have hk : Keeps w w O (fun _ => False) := ⟨Nat.le_refl _, fun _ _ _ => rfl, fun _ _ h => h.elim⟩
  obtain ⟨t, x⟩ := v
  cases t with
  | obuf t =>
    have h' : u = β x := h
    subst h'
    cases he : Owns.get E x with
    | none =>
      have e : dat E ⟨.obuf t, x⟩ = ⟨.junk, ()⟩ := by simp only [dat, he]
      rw [e]; trivial
    | some o =>
      cases o with
      | box t' x' =>
        have e : dat E ⟨.obuf t, x⟩ = ⟨.junk, ()⟩ := by simp only [dat, he]
        rw [e]; trivial
      | hbox vs =>
        have e : dat E ⟨.obuf t, x⟩ = ⟨.junk, ()⟩ := by simp only [dat, he]
        rw [e]; trivial
      | buf te t' xs =>
        have e : dat E ⟨.obuf t, x⟩ = ⟨.slice t', xs⟩ := by simp only [dat, he]
        rw [e]
        exact (hown x _ he).view (fun _ _ h => h.elim) (fun _ _ h => h.elim)
  | _ => exact RepV.keep hk _ _ _ h
theorem RepV.bool {b : Bool} {u : Value} (h : RepV w O β .bool b u) : u = .bool b := by
  have h' : [u] = [Value.bool b] := h
  simpa using h'
theorem RepV.int {k : IntKind} {x : IntT k} {u : Value} (h : RepV w O β (.int k) x u) : u = .int k (encI k x) := by
  have h' : [u] = [Value.int k (encI k x)] := h
  simpa using h'
theorem RepV.str {l : List UInt8} {u : Value} (h : RepV w O β .str l u) : u = .string ⟨l.toArray⟩ ∧ l.length ≤ maxLen := by
  have h' : [u] = [Value.string ⟨l.toArray⟩] ∧ l.length ≤ maxLen := h
  exact ⟨by simpa using h'.1, h'.2⟩
theorem RepV.ofBool {b : Bool} : RepV w O β .bool b (.bool b) := (rfl : [Value.bool b] = [Value.bool b])
theorem RepV.ofInt {k : IntKind} {x : IntT k} : RepV w O β (.int k) x (.int k (encI k x)) := (rfl : [Value.int k (encI k x)] = [Value.int k (encI k x)])
theorem RepV.ofStr {l : List UInt8} (h : l.length ≤ maxLen) : RepV w O β .str l (.string ⟨l.toArray⟩) := (⟨rfl, h⟩ : [Value.string ⟨l.toArray⟩] = [Value.string ⟨l.toArray⟩] ∧ l.length ≤ maxLen)
theorem rep_cast {t s : Ty} (h : s = t) {x : s.T} {u : Value} (hr : RepV w O β s x u) : RepV w O β t (h ▸ x) u := by subst h; exact hr
theorem castO_spec {s t : Ty} {x : s.T} {e : Option (PLift (s = t))} {y : t.T} (h : castO s t x e = some y) : (⟨s, x⟩ : V) = ⟨t, y⟩ := by
  cases e with
  | none => cases h
  | some e => obtain ⟨e⟩ := e; subst e; cases h; rfl
theorem nilAs_spec {t : Ty} {v : V} {y : t.T} (h : nilAs t v = some y) : v = ⟨.lit, .slice none 0 0⟩ ∧ ∃ τ, (⟨t, y⟩ : V) = ⟨.slice τ, []⟩ := by
  obtain ⟨s, x⟩ := v
  cases t <;> first | (cases h; done) | skip
  rename_i τ
  cases s <;> first | (cases h; done) | skip
  cases x <;> first | (cases h; done) | skip
  rename_i A m c
  cases A <;> first | (cases h; done) | skip
  cases m <;> first | (cases h; done) | skip
  cases c <;> first | (cases h; done) | skip
  cases h
  exact ⟨rfl, τ, rfl⟩
theorem coe_spec {t : Ty} {v : V} {y : t.T} (h : coe t v = some y) : v = ⟨t, y⟩ ∨ (v = ⟨.lit, .slice none 0 0⟩ ∧ ∃ τ, (⟨t, y⟩ : V) = ⟨.slice τ, []⟩) := by
  obtain ⟨s, x⟩ := v
  simp only [coe] at h
  generalize tyEq? s t = e at h
  cases e with
  | some e =>
    obtain ⟨e⟩ := e
    subst e
    cases h
    exact .inl rfl
  | none =>
    refine .inr ?_
    exact nilAs_spec h
theorem coe_rep {t : Ty} (ht : t.data = true) {v : V} {y : t.T} (h : coe t v = some y) {u : Value} (hr : RepV w O β v.t v.x u) : RepD w O t y u := by
  rcases coe_spec h with rfl | ⟨rfl, τ, he⟩
  · exact (repV_data ht).1 hr
  · cases he
    have : u = .slice none 0 0 := hr
    subst this
    exact (RepD.scalar rfl).2 ⟨_, rfl, .inl ⟨rfl, none, 0, rfl, by simp⟩⟩
theorem pre_some {A : List Prop} {o : Option (List Prop × V)} {r : List Prop × V} (h : pre A o = some r) : ∃ q, o = some q ∧ (A ++ q.1, q.2) = r := by
  induction A generalizing r with
  | nil => exact ⟨r, h, rfl⟩
  | cons a A ih =>
    simp only [pre] at h
    split at h <;> first | (cases h; done) | skip
    rename_i p v hp
    cases h
    obtain ⟨q, h1, h2⟩ := ih hp
    cases h2
    exact ⟨q, h1, rfl⟩
theorem asI_some {k : IntKind} {o : Option (List Prop × IntT k)} {r : List Prop × V} (h : asI k o = some r) : ∃ q, o = some q ∧ (q.1, (⟨.int k, q.2⟩ : V)) = r := by
  cases o with
  | none => cases h
  | some q => obtain ⟨p, v⟩ := q; cases h; exact ⟨(p, v), rfl, rfl⟩
theorem asT_some {t : Ty} {o : Option (List Prop × t.T)} {r : List Prop × V} (h : asT t o = some r) : ∃ q, o = some q ∧ (q.1, (⟨t, q.2⟩ : V)) = r := by
  cases o with
  | none => cases h
  | some q => obtain ⟨p, v⟩ := q; cases h; exact ⟨(p, v), rfl, rfl⟩
theorem asBool'_some {o : Option Bool} {r : List Prop × V} (h : asBool' o = some r) : ∃ b, o = some b ∧ (([] : List Prop), (⟨.bool, b⟩ : V)) = r := by
  cases o with
  | none => cases h
  | some b => cases h; exact ⟨b, rfl, rfl⟩
theorem withP_some {p : List Prop} {o : Option V} {r : List Prop × V} (h : withP p o = some r) : ∃ v, o = some v ∧ (p, v) = r := by
  cases o with
  | none => cases h
  | some b => cases h; exact ⟨b, rfl, rfl⟩
theorem numV_rep {v : V} {i : Int} (h : numV v = some i) {u : Value} (hr : RepV w O β v.t v.x u) : ∃ k, u = .int k i := by
  obtain ⟨t, x⟩ := v
  cases t <;> simp only [numV, reduceCtorEq] at h
  rw [encS_eq] at h
  cases h
  exact ⟨_, RepV.int hr⟩

/-! ### pick -/
theorem allP_impP {c : Bool} {l : List Prop} (h : allP (impP c l)) (hc : c = true) : allP l := by
  cases l with
  | nil => trivial
  | cons p r => exact h hc
theorem pickB_rep {cb : Bool} {va vb : V} {r : List Prop × V} (h : pickB cb va vb = some r) (hp : allP r.1) {ua ub : Value}
    (ha : RepV w O β va.t va.x ua) (hb : RepV w O β vb.t vb.x ub) : RepV w O β r.2.t r.2.x (if cb then ua else ub) := by
  unfold pickB at h
  have h1 : ∀ p a', strip va = (p, a') → allP (impP cb p) → (cb = true → RepV w O β a'.t a'.x ua) := fun p a' he hi hcb => by
    have := strip_rep ha (by rw [he]; exact allP_impP hi hcb)
    rwa [he] at this
  have h2 : ∀ p b', strip vb = (p, b') → allP (impP (!cb) p) → (cb = false → RepV w O β b'.t b'.x ub) := fun p b' he hi hcb => by
    have := strip_rep hb (by rw [he]; exact allP_impP hi (by simp [hcb]))
    rwa [he] at this
  generalize hx : strip va = sa at h
  generalize hy : strip vb = sb at h
  obtain ⟨p, s, x⟩ := sa
  obtain ⟨q, t, y⟩ := sb
  obtain ⟨r1, g1, rfl⟩ := pre_some h
  obtain ⟨r2, g2, rfl⟩ := pre_some g1
  simp only [allP_append] at hp
  generalize tyEq? t s = e at g2
  cases e with
  | none => cases g2
  | some e =>
    obtain ⟨e⟩ := e
    subst e
    cases g2
    cases hcb : cb with
    | true => exact h1 _ _ hx hp.1 hcb
    | false => exact h2 _ _ hy hp.2.1 hcb
theorem pickV_rep {c va vb : V} {r : List Prop × V} (h : pickV c va vb = some r) (hp : allP r.1) {uc ua ub : Value} (hc : RepV w O β c.t c.x uc)
    (ha : RepV w O β va.t va.x ua) (hb : RepV w O β vb.t vb.x ub) :
    ∃ b : Bool, uc = .bool b ∧ RepV w O β r.2.t r.2.x (if b then ua else ub) := by
  obtain ⟨tc, cb⟩ := c
  cases tc with
  | bool => exact ⟨cb, RepV.bool hc, pickB_rep h hp ha hb⟩
  | cond t =>
    cases t with
    | bool =>
      obtain ⟨k, cb⟩ := cb
      obtain ⟨r1, g1, rfl⟩ := pre_some (A := [k = true]) (o := pickB cb va vb) h
      simp only [allP_append] at hp
      exact ⟨cb, RepV.bool (hc.1 hp.1), pickB_rep g1 hp.2 ha hb⟩
    | _ => cases h
  | _ => cases h

/-! ### arithmetic -/
theorem eqGuard_other {op : BinOp} {t : TypeId} {x y : Operand} {u v : Value} (h1 : ∀ cs, u ≠ .agg cs) (h2 : u ≠ .nilIface) : (eqGuard op t x y u v).run P w = .ok () w := by
  unfold eqGuard
  cases op <;> simp only [Bool.not_false, Bool.not_true, if_true, Bool.false_eq_true, if_false] <;> first
    | rfl
    | (cases u <;> first | rfl | exact absurd rfl (h1 _) | exact absurd rfl h2)
theorem guard_run {op : BinOp} {t : TypeId} {x y : Operand} {u v z : Value} (h1 : ∀ cs, u ≠ .agg cs) (h2 : u ≠ .nilIface) (h : (Go.binOp op t u v).run P w = .ok z w) :
    (do eqGuard op t x y u v; Go.binOp op t u v : Sem Value).run P w = .ok z w := by
  rw [Sem.run_bind, eqGuard_other h1 h2]
  exact h
theorem bytes_beq (x y : List UInt8) : ((⟨x.toArray⟩ : ByteArray).toList == (⟨y.toArray⟩ : ByteArray).toList) = eqb .str x y := by
  rw [ByteArray.toList_eq, ByteArray.toList_eq]
  exact eqb_of (t := .str) (by simp)
theorem bytes_toList (x : List UInt8) : (⟨x.toArray⟩ : ByteArray).toList = x := by rw [ByteArray.toList_eq]
theorem binV_yields (hT : TOk P T Q) {op : BinOp} {xt : TypeId} {x y : Operand} {va vb : V} {r : List Prop × V} (h : binV T Q op xt va vb = some r) (hp : allP r.1) {ua ub : Value}
    (ha : RepV w O β va.t va.x ua) (hb : RepV w O β vb.t vb.x ub) : Yields P (do eqGuard op xt x y ua ub; Go.binOp op xt ua ub) w O β r.2 := by
  have agg : ∀ (t s : Ty) (xa : t.T) (xb : s.T), RepV w O β t xa ua → RepV w O β s xb ub → (h0 : (t.isAgg && tis T xt t && Q.any (Nat.beq xt)) = true) →
      ∀ (he : s = t), (op = .eql → Yields P (do eqGuard op xt x y ua ub; Go.binOp op xt ua ub) w O β ⟨.bool, eqb t xa (he ▸ xb)⟩) ∧
        (op = .neq → Yields P (do eqGuard op xt x y ua ub; Go.binOp op xt ua ub) w O β ⟨.bool, !eqb t xa (he ▸ xb)⟩) := by
    intro t s xa xb ha hb h0 he
    subst he
    simp only [Bool.and_eq_true] at h0
    obtain ⟨⟨h1, h3⟩, h4⟩ := h0
    have hl := hT.is h3
    obtain ⟨hg, hc⟩ := hT.cmp _ h4
    obtain ⟨hc, hd⟩ := hc _ (tis_get h3)
    have ha' := (repV_data hl.data).1 ha
    have hb' := (repV_data hl.data).1 hb
    have hrun := ((equalIn_run (P := P) (w := w) (O := O) (O' := O) s 10000 hd).1 xt xa xb ua ub hl hc ha' hb')
    obtain ⟨cs, rfl, _⟩ := (RepD.agg h1).1 ha'
    obtain ⟨ds, rfl, _⟩ := (RepD.agg h1).1 hb'
    constructor
    · rintro rfl
      refine .still (u := .bool (eqb s xa xb)) ?_ RepV.ofBool
      rw [Sem.run_bind, run_eqGuard_agg _ _ _ _ _ _ _ hg, Result.andThen_ok]
      simp only [Go.binOp, Op.equal, Op.maxDepth, Sem.run_bind, hrun, Result.andThen_ok, Sem.run_pure]
    · rintro rfl
      refine .still (u := .bool (!eqb s xa xb)) ?_ RepV.ofBool
      rw [Sem.run_bind, run_eqGuard_agg _ _ _ _ _ _ _ hg, Result.andThen_ok]
      simp only [Go.binOp, Op.equal, Op.maxDepth, Sem.run_bind, hrun, Result.andThen_ok, Sem.run_pure]
  obtain ⟨ta, xa⟩ := va
  obtain ⟨tb, xb⟩ := vb
  unfold binV at h
  split at h
  · rename_i k xa l xb hxa hxb
    obtain ⟨rfl, hxa⟩ := V.mk.inj hxa
    obtain ⟨rfl, hxb⟩ := V.mk.inj hxb
    cases hxa
    cases hxb
    have eu := RepV.int ha
    have ev := RepV.int hb
    subst eu; subst ev
    split at h
    · rw [encS_eq] at h
      obtain ⟨q, h1, rfl⟩ := asI_some h
      exact .still (guard_run (by simp) (by simp) (shI_run (vc := q.1) (z := q.2) h1 hp)) RepV.ofInt
    · rw [encS_eq] at h
      obtain ⟨q, h1, rfl⟩ := asI_some h
      exact .still (guard_run (by simp) (by simp) (shI_run (vc := q.1) (z := q.2) h1 hp)) RepV.ofInt
    · generalize kEq? l k = e at h
      cases e with
      | none => cases h
      | some e =>
        obtain ⟨e⟩ := e
        subst e
        simp only [binI] at h
        split at h
        · rw [encS_eq, encS_eq] at h
          obtain ⟨q, h1, rfl⟩ := asBool'_some h
          exact .still (guard_run (by simp) (by simp) (cmpI_run h1)) RepV.ofBool
        · obtain ⟨q, h1, rfl⟩ := asI_some h
          exact .still (guard_run (by simp) (by simp) (arI_run (vc := q.1) (z := q.2) h1 hp)) RepV.ofInt
  · rename_i xa xb hxa hxb
    obtain ⟨rfl, hxa⟩ := V.mk.inj hxa
    obtain ⟨rfl, hxb⟩ := V.mk.inj hxb
    cases hxa
    cases hxb
    obtain ⟨eu, _⟩ := RepV.str ha
    obtain ⟨ev, _⟩ := RepV.str hb
    subst eu; subst ev
    split at h <;> first | (cases h; done) | (cases h)
    · have hp' : List.length xa + List.length xb ≤ maxLen := hp
      refine .still (guard_run (by simp) (by simp) (?_ : _ = Result.ok (.string ⟨(xa ++ xb : List UInt8).toArray⟩) w)) (RepV.ofStr (by simpa using hp'))
      have hs : ∀ l : List UInt8, (⟨l.toArray⟩ : ByteArray).size = l.length := fun l => by simp [ByteArray.size]
      have : ¬ (((List.length xa + List.length xb : Nat) : Int) > IntKind.i64.max) := by
        simp only [maxLen, IntKind.max, IntKind.signed, IntKind.bits] at *
        simp; omega
      simp only [Go.binOp, Op.stringOp, hs, this, if_false, Sem.run_pure]
      congr 2
    · exact .still (guard_run (by simp) (by simp) (by simp only [Go.binOp, Op.stringOp, bytes_beq, Sem.run_pure])) RepV.ofBool
    · exact .still (guard_run (by simp) (by simp) (by simp only [Go.binOp, Op.stringOp, bytes_beq, Sem.run_pure])) RepV.ofBool
    · exact .still (guard_run (by simp) (by simp) (by simp only [Go.binOp, Op.stringOp, bytes_toList, Sem.run_pure])) RepV.ofBool
    · exact .still (guard_run (by simp) (by simp) (by simp only [Go.binOp, Op.stringOp, bytes_beq, Sem.run_pure]; simp only [bytes_toList])) RepV.ofBool
    · exact .still (guard_run (by simp) (by simp) (by simp only [Go.binOp, Op.stringOp, bytes_beq, Sem.run_pure]; simp only [bytes_toList])) RepV.ofBool
    · exact .still (guard_run (by simp) (by simp) (by simp only [Go.binOp, Op.stringOp, bytes_toList, Sem.run_pure])) RepV.ofBool
  · rename_i xa xb hxa hxb
    obtain ⟨rfl, hxa⟩ := V.mk.inj hxa
    obtain ⟨rfl, hxb⟩ := V.mk.inj hxb
    cases hxa
    cases hxb
    have eu := RepV.bool ha
    have ev := RepV.bool hb
    subst eu; subst ev
    have hq : tis T xt .bool = true → (Op.equal xt (.bool xa) (.bool xb)).run P w = .ok (eqb .bool xa xb) w := fun ht => by
      have := run_equalIn_bool' w 9999 xt xa xb (hT.is ht).1
      simp only [Op.equal, Op.maxDepth]
      rw [this]
      congr 1
      exact eqb_of (t := .bool) (by simp)
    split at h
    · split at h
      · rename_i ht
        cases h
        refine .still (guard_run (by simp) (by simp) ?_) RepV.ofBool
        simp only [Go.binOp, Sem.run_bind, hq ht, Result.andThen_ok, Sem.run_pure]
      · cases h
    · split at h
      · rename_i ht
        cases h
        refine .still (guard_run (by simp) (by simp) ?_) RepV.ofBool
        simp only [Go.binOp, Sem.run_bind, hq ht, Result.andThen_ok, Sem.run_pure]
      · cases h
    · cases h
  · rename_i t xa s xb hn1 hn2 hn3 hxa hxb
    obtain ⟨rfl, hxa⟩ := V.mk.inj hxa
    obtain ⟨rfl, hxb⟩ := V.mk.inj hxb
    cases hxa
    cases hxb
    split at h
    · rename_i h0
      generalize tyEq? tb ta = e at h
      cases e with
      | none => cases h
      | some e =>
        obtain ⟨e⟩ := e
        subst e
        have := agg _ _ _ _ ha hb h0 rfl
        simp only [binE] at h
        split at h
        · cases h; exact this.1 rfl
        · cases h; exact this.2 rfl
        · cases h
    · cases h
theorem unV_yields {op : UnOp} {va : V} {r : List Prop × V} (h : unV op va = some r) (hp : allP r.1) {ua : Value} (ha : RepV w O β va.t va.x ua) : Yields P (Op.unary op ua) w O β r.2 := by
  obtain ⟨ta, xa⟩ := va
  cases ta <;> simp only [unV, reduceCtorEq] at h
  · have := RepV.bool ha
    subst this
    cases op <;> simp only [reduceCtorEq] at h
    cases h
    exact .still rfl RepV.ofBool
  · have := RepV.int ha
    subst this
    obtain ⟨q, h1, rfl⟩ := asI_some h
    exact .still (unI_run (vc := q.1) (z := q.2) h1 hp) RepV.ofInt
end
end Go.Proofs.YtbbeldmcdjjnbaaDoor
namespace Go.Proofs.YtbbeldmcdjjnbaaDoor
open Go Go.RowKit
set_option linter.unusedSimpArgs false
set_option linter.unusedVariables false

section
variable {P : Program} {w : World} {O O' : Nat → Prop} {β : Nat → Value} {T : Tbl} {Q : List TypeId} {E : Owns} {F : Frame} {B : Nat} {a : Act}

theorem Keeps.of_false : Keeps w w O (fun _ => False) := ⟨Nat.le_refl _, fun _ _ _ => rfl, fun _ _ h => h.elim⟩

/-! ### a slice's cells -/
theorem repL_bytes {xs : List UInt8} {vs : List Value} (h : RepL (RepC w O (.int .u8)) xs vs) : vs = xs.map fun b => .int .u8 (b.toNat : Int) := by
  induction xs generalizing vs with
  | nil => cases h; rfl
  | cons x xs ih =>
    obtain ⟨c1, c2, rfl, h2, h3⟩ := h
    rw [ih h3]
    cases h2
    rfl
theorem repL_ofBytes (xs : List UInt8) : RepL (RepC w O (.int .u8)) xs (xs.map fun b => .int .u8 (b.toNat : Int)) := by
  induction xs with
  | nil => rfl
  | cons x xs ih => exact ⟨[_], _, rfl, rfl, ih⟩
theorem RepV.slice {t : Ty} {xs : List t.T} {u : Value} (h : RepV w O β (.slice t) xs u) : RepS w O (RepC w O t) xs u := by
  obtain ⟨v, hv, h'⟩ := ((RepD.scalar rfl).1 h : RepC w O (.slice t) xs [u])
  cases hv
  exact h'
theorem RepV.ofSlice {t : Ty} {xs : List t.T} {u : Value} (h : RepS w O (RepC w O t) xs u) : RepV w O β (.slice t) xs u :=
  ((RepD.scalar rfl).2 ⟨u, rfl, h⟩ : RepD w O (.slice t) xs u)
theorem RepS.nlen {α : Type} {R : α → List Value → Prop} {xs : List α} {u : Value} (h : RepS w O R xs u) : ∃ A c, u = .slice A xs.length c ∧ xs.length ≤ c ∧ c ≤ maxLen := by
  rcases h with ⟨rfl, A, c, rfl, h⟩ | ⟨g, off, c, vs, rfl, _, h1, h2, _⟩
  · exact ⟨A, c, rfl, Nat.zero_le _, h⟩
  · exact ⟨_, c, rfl, h1, h2⟩

/-! ### new memory -/
theorem below_alloc (w : World) (o : Obj) : Below w.heap.size w (w.alloc o) := (Below.refl _ _).alloc (Nat.le_refl _) _
/-- a list in a new row -/
theorem repS_new {t : Ty} {xs : List t.T} {vs : List Value} (hO : ∀ g, O g → g < w.heap.size) (h : RepL (RepC w O t) xs vs) {cap : Nat} (hc : xs.length ≤ cap) (hm : cap ≤ maxLen) {cells : Array Value} {te : TypeId} {fz : Nat × Nat}
    {w' : World} (hk : Below w.heap.size w w') (hrow : w'.heap[w.heap.size]? = some (.cells cells te fz)) (hpre : ∀ (j : Nat) (u : Value), vs[j]? = some u → cells[j]? = some u) :
    RepS w' O (RepC w' O t) xs (.slice (some ⟨w.heap.size, 0, none⟩) xs.length cap) := by
  by_cases hx : xs = []
  · subst hx
    exact .inl ⟨rfl, _, cap, rfl, hm⟩
  · refine .inr ⟨w.heap.size, 0, cap, vs, rfl, hx, hc, hm, (Array.getElem?_eq_some_iff.1 hrow).1, fun h => Nat.lt_irrefl _ (hO _ h), h.mono fun x _ c => RepC.keep (.of_below hk fun _ _ h => h) _ _ _, fun j u hu => ?_⟩
    rw [Nat.zero_add]
    unfold World.cell?
    rw [hrow]
    simp only [Option.isSome_none, Bool.false_eq_true, if_false]
    exact hpre j u hu

/-! ### conversions -/
def byteCells (l : List UInt8) : List Value := l.map fun b => .int .u8 (b.toNat : Int)
theorem below_freeze (w : World) (o : Obj) (k n : Nat) : Below w.heap.size w ((w.alloc o).freeze ⟨w.heap.size, k, none⟩ n) := by
  unfold World.freeze
  split
  · exact below_alloc w o
  · refine ⟨rfl, rfl, rfl, ?_, fun g hg => ?_⟩
    · show w.heap.size ≤ (Array.modify (w.heap.push o) _ _).size
      simp
    show (Array.modify (w.heap.push o) _ _)[g]? = _
    simp only [Array.getElem?_modify]
    rw [if_neg (by omega), Array.getElem?_push, if_neg (by omega)]
theorem freeze_new (w : World) (cs : Array Value) (e : TypeId) (fz : Nat × Nat) (k n : Nat) : ∃ fz', ((w.alloc (.cells cs e fz)).freeze ⟨w.heap.size, k, none⟩ n).heap[w.heap.size]? = some (.cells cs e fz') := by
  unfold World.freeze
  split
  · exact ⟨fz, heap_alloc_new w _⟩
  · simp only [World.alloc, Array.getElem?_modify, if_true]
    rw [show (w.heap.push (Obj.cells cs e fz))[w.heap.size]? = some (Obj.cells cs e fz) by simp]
    exact ⟨_, rfl⟩
theorem run_stringToBytes (e : TypeId) (l : List UInt8) (w : World) :
    ∃ cap w', (Conv.stringToBytes e ⟨l.toArray⟩).run P w = .ok (.slice (some ⟨w.heap.size, 0, none⟩) l.length cap) w' ∧ l.length ≤ cap ∧ (l.length ≤ maxLen → cap ≤ maxLen) ∧ Below w.heap.size w w' ∧
      ∃ fz, w'.heap[w.heap.size]? = some (.cells ((byteCells l).toArray ++ Array.replicate (cap - l.length) (Value.int .u8 0)) e fz) := by
  have hs : (⟨l.toArray⟩ : ByteArray).size = l.length := by simp [ByteArray.size]
  have hdata : ((⟨l.toArray⟩ : ByteArray).data.map fun b => Value.int .u8 (b.toNat : Int)) = (byteCells l).toArray := by simp [byteCells]
  generalize hcap : (Question.appendCap l.length 0 e).cut (w.tape w.drawn (.appendCap l.length 0 e)) = cap
  have h1 : l.length ≤ cap := by rw [← hcap]; simp only [Question.cut]; omega
  have h2 : l.length ≤ maxLen → cap ≤ maxLen := fun hm => by
    rw [← hcap]; simp only [Question.cut, maxLen] at *
    have := Nat.mod_lt (w.tape w.drawn (.appendCap l.length 0 e)) (show 0 < 2 ^ 63 - l.length by omega)
    omega
  have hb : Below w.heap.size w w.drew := (Below.refl _ _).drew
  refine ⟨cap, (w.drew.alloc (.cells ((byteCells l).toArray ++ Array.replicate (cap - l.length) (Value.int .u8 0)) e)).freeze ⟨w.drew.heap.size, ((byteCells l).toArray ++ Array.replicate (cap - l.length) (Value.int .u8 0)).size, none⟩ 1, ?_, h1, h2, hb.trans (below_freeze w.drew _ _ _), freeze_new w.drew _ _ _ _ _⟩
  have hrow : (w.drew.alloc (.cells ((byteCells l).toArray ++ Array.replicate (cap - l.length) (Value.int .u8 0)) e)).shape? w.drew.heap.size = some (e, ((byteCells l).toArray ++ Array.replicate (cap - l.length) (Value.int .u8 0)).size) := by
    simp only [World.shape?, heap_alloc_new]
  unfold Conv.stringToBytes
  rw [hs]
  simp only [Sem.run_bind, run_choose_drew, Question.forced, Bool.false_eq_true, if_false, Result.andThen_ok, hcap, newRow, newObj, Sem.run, Sem.run_pure, markStringish, hdata]
  rw [show ({ w.drew with heap := w.drew.heap.push (Obj.cells ((byteCells l).toArray ++ Array.replicate (cap - l.length) (Value.int .u8 0)) e) } : World) = w.drew.alloc (Obj.cells ((byteCells l).toArray ++ Array.replicate (cap - l.length) (Value.int .u8 0)) e) from rfl]
  simp only [run_shape, hrow, Result.andThen_ok, run_freeze]
  rfl
theorem tis_int_under (hT : TOk P T Q) {t : TypeId} {k : IntKind} (h : tis T t (.int k) = true) : P.underlying t = some (.int k) := (hT.is h).1
theorem cvV_yields (hT : TOk P T Q) (hO : ∀ g, O g → g < w.heap.size) {src dst : TypeId} {va : V} {r : List Prop × V} (h : cvV T src dst va = some r) (hp : allP r.1) {ua : Value} (ha : RepV w (fun _ => False) β va.t va.x ua) :
    Yields P (Go.convert src dst ua) w O β r.2 := by
  obtain ⟨ta, xa⟩ := va
  unfold cvV at h
  split at h
  · rename_i k x l hv ht
    obtain ⟨rfl, hv⟩ := V.mk.inj hv
    cases hv
    split at h
    · rename_i hs
      obtain ⟨q, h1, rfl⟩ := asI_some h
      have := RepV.int ha
      subst this
      have hsu := (hT.is hs).1
      have hdu := (hT.lay _ _ ht).1
      refine .still (u := .int l (encI l q.2)) ?_ RepV.ofInt
      unfold Go.convert
      simp only [Sem.run_bind, run_underlying hsu, run_underlying hdu, Result.andThen_ok, Conv.intToInt, Sem.run_pure]
      rw [cvI_wrap (vc := q.1) (z := q.2) h1 hp]
    · cases h
  · rename_i x hv ht
    obtain ⟨rfl, hv⟩ := V.mk.inj hv
    cases hv
    split at h
    · rename_i hs
      cases h
      obtain ⟨e, hl⟩ := RepV.str ha
      subst e
      have hsu := (hT.is hs).1
      have hdu := (hT.lay _ _ ht).1
      refine .still ?_ (RepV.ofStr hl)
      unfold Go.convert
      simp only [Sem.run_bind, run_underlying hsu, run_underlying hdu, Result.andThen_ok, Sem.run_pure]
    · cases h
  · rename_i x hv ht
    obtain ⟨rfl, hv⟩ := V.mk.inj hv
    cases hv
    split at h
    · rename_i hs
      cases h
      obtain ⟨e, hl⟩ := RepV.str ha
      subst e
      have hsu := (hT.is hs).1
      obtain ⟨te, hdu, _, hte⟩ := hT.lay _ _ ht
      obtain ⟨cap, w', h1, h2, h3, h4, fz, h5⟩ := run_stringToBytes (P := P) te x w
      refine ⟨_, w', ?_, h4, RepV.ofSlice (repS_new hO (repL_ofBytes x) h2 (h3 hl) h4 h5 fun j u hj => ?_)⟩
      · unfold Go.convert
        simp only [Sem.run_bind, run_underlying hsu, run_underlying hdu, Result.andThen_ok, run_underlying hte.1, h1]
      · rw [Array.getElem?_append_left]
        · simpa [byteCells] using hj
        · have := (List.getElem?_eq_some_iff.1 hj).1
          simpa [byteCells] using this
    · cases h
  · rename_i x hv ht
    obtain ⟨rfl, hv⟩ := V.mk.inj hv
    cases hv
    split at h
    · rename_i hs
      cases h
      have hsl := RepV.slice ha
      obtain ⟨te, hsu, _, hte⟩ := hT.is hs
      have hdu := (hT.lay _ _ ht).1
      rcases hsl with ⟨rfl, A, c, rfl, hc⟩ | ⟨g, off, c, vs, rfl, hx, h1, h2, h3, _, h5, h6⟩
      · refine .still (u := .string ⟨#[]⟩) ?_ (RepV.ofStr (l := []) (by simp))
        cases A with
        | none => exact run_convert_bytes_nil (P := P) w src te hsu hte.1 0 c dst hdu
        | some A =>
          have := run_convert_bytes_back (P := P) w src dst te A c [] hsu hte.1 hdu (fun j hj => by simp at hj)
          exact this
      · have hvs := repL_bytes h5
        subst hvs
        refine .still (run_convert_bytes_back (P := P) w src dst te ⟨g, off, none⟩ c x hsu hte.1 hdu fun j hj => ?_) (RepV.ofStr (Nat.le_trans h1 h2))
        rw [Addr.add_mid]
        exact h6 j _ (by simp [hj])
    · cases h
  · cases h

/-! ### parts -/
theorem asIntOf_int (k : IntKind) (n : Int) : (asIntOf (.int k n)).run P w = .ok (k, n) w := rfl
theorem arr_nth {n i : Nat} {t : Ty} {xs : List t.T} {cs : List Value} (h : RepC w O (.arr n t) xs cs) (hi : i < n) :
    RepC w O t (xs.getD i (zeroX t)) ((cs.drop (i * t.size)).take t.size) := by
  obtain ⟨h1, h2⟩ := h
  have hi' : i < xs.length := by have h1' : xs.length = n := h1; omega
  refine h2.nth (fun x c => RepC.len t x c) ?_
  simp [List.getD, List.getElem?_eq_getElem hi']
theorem indexV_yields (hT : TOk P T Q) {xt : TypeId} {va vi : V} {r : List Prop × V} (h : indexV T xt va vi = some r) (hp : allP r.1) {ua ui : Value} (ha : RepV w O β va.t va.x ua) (hi : RepV w O β vi.t vi.x ui) :
    Yields P (Instr.index xt ua ui) w O β r.2 := by
  obtain ⟨ta, xa⟩ := va
  unfold indexV at h
  split at h
  · rename_i n t xs i hv hv'
    obtain ⟨rfl, hv⟩ := V.mk.inj hv
    cases hv
    obtain ⟨k, rfl⟩ := numV_rep hv' hi
    split at h
    · rename_i hs
      cases h
      obtain ⟨te, hu, _, hte⟩ := hT.is hs
      obtain ⟨cs, rfl, hc⟩ := (RepD.agg rfl).1 ha
      obtain ⟨h0, h1⟩ := hp
      have h1 : i < (n : Int) := h1
      obtain ⟨u, h2, h3⟩ := hte.part (arr_nth hc (i := i.toNat) (by omega))
      refine .still (u := u) ?_ ((repV_data hte.data).2 h3)
      unfold Instr.index
      simp only [Sem.run_bind, asIntOf_int, Result.andThen_ok, run_underlying hu, h0, h1, and_self, if_true, hte.sizeOf, h2]
    · cases h
  · rename_i l i hv hv'
    obtain ⟨rfl, hv⟩ := V.mk.inj hv
    cases hv
    obtain ⟨k, rfl⟩ := numV_rep hv' hi
    split at h
    · rename_i hs
      cases h
      have hu := (hT.is hs).1
      obtain ⟨e, hl⟩ := RepV.str ha
      subst e
      obtain ⟨h0, h1⟩ := hp
      have h1 : i < (List.length l : Nat) := h1
      have hlt : i.toNat < List.length l := by omega
      refine .still (u := .int .u8 ((List.getD l i.toNat 0).toNat : Int)) ?_ (RepV.ofInt (k := .u8))
      unfold Instr.index
      have hget : (⟨List.toArray l⟩ : ByteArray)[i.toNat]? = some (List.getD l i.toNat 0) := by
        have hsz : i.toNat < (⟨List.toArray l⟩ : ByteArray).size := by simpa [ByteArray.size] using hlt
        rw [getElem?_pos (⟨List.toArray l⟩ : ByteArray) i.toNat hsz]
        simp [List.getD, List.getElem?_eq_getElem hlt]
        rfl
      simp only [Sem.run_bind, asIntOf_int, Result.andThen_ok, run_underlying hu, h0, if_true, hget, Sem.run_pure]
    · cases h
  · cases h
end
end Go.Proofs.YtbbeldmcdjjnbaaDoor
namespace Go.Proofs.YtbbeldmcdjjnbaaDoor
open Go Go.RowKit
set_option linter.unusedSimpArgs false
set_option linter.unusedVariables false

section
variable {P : Program} {w : World} {O O' : Nat → Prop} {β : Nat → Value} {T : Tbl} {Q : List TypeId} {E : Owns} {F : Frame} {B : Nat} {a : Act}

theorem slice_nth {t : Ty} {i : Nat} {xs : List t.T} {vs : List Value} (h : RepL (RepC w O t) xs vs) (hi : i < xs.length) : RepC w O t (xs.getD i (zeroX t)) ((vs.drop (i * t.size)).take t.size) := by
  refine h.nth (fun x c => RepC.len t x c) ?_
  simp [List.getD, List.getElem?_eq_getElem hi]
theorem indexAt_slice {xt te : TypeId} {s : Nat} (hu : P.underlying xt = some (.slice te)) (hs : (Go.sizeOf te).run P w = .ok s w) {A : Addr} {n c : Nat} {k : IntKind} {i : Int} (h0 : 0 ≤ i) (h1 : i < n) :
    (Instr.indexAt xt (.slice (some A) n c) (.int k i)).run P w = .ok (.pointer (some (A.add (i.toNat * s)))) w := by
  unfold Instr.indexAt
  simp [Sem.run_bind, asIntOf_int, run_underlying hu, hs, h0, h1]
theorem indexAt_arr {xt te : TypeId} {n s : Nat} (hu : P.underlying xt = some (.array n te)) (hs : (Go.sizeOf te).run P w = .ok s w) {A : Addr} {k : IntKind} {i : Int} (h0 : 0 ≤ i) (h1 : i < n) :
    (Instr.indexAt xt (.pointer (some A)) (.int k i)).run P w = .ok (.pointer (some (A.add (i.toNat * s)))) w := by
  unfold Instr.indexAt
  simp [Sem.run_bind, asIntOf_int, run_underlying hu, hs, h0, h1, Instr.sureAddr]

theorem indexAddrV_yields (hT : TOk P T Q) (hown : ∀ i o, Owns.get E i = some o → OwnRep w O β B (β i) o) {xt : TypeId} {va vi : V} {r : List Prop × V} (h : indexAddrV T E xt va vi = some r) (hp : allP r.1) {ua ui : Value}
    (ha : RepV w O β va.t va.x ua) (hi : RepV w O β vi.t vi.x ui) : Yields P (Instr.indexAt xt ua ui) w O β r.2 := by
  obtain ⟨ta, xa⟩ := va
  unfold indexAddrV at h
  split at h
  · rename_i t xs i hv hv'
    obtain ⟨rfl, hv⟩ := V.mk.inj hv
    cases hv
    obtain ⟨k, rfl⟩ := numV_rep hv' hi
    split at h
    · rename_i hs
      cases h
      obtain ⟨h0, h1⟩ := hp
      have h1 : i < (List.length xs : Nat) := h1
      have hlt : i.toNat < List.length xs := by omega
      obtain ⟨te, hu, _, hte⟩ := hT.is hs
      rcases RepV.slice ha with ⟨rfl, _⟩ | ⟨g, off, c, vs, rfl, _, _, _, h5, h6, h7, h8⟩
      · simp at hlt
      · refine .still (indexAt_slice hu hte.sizeOf h0 h1) ⟨g, off + i.toNat * t.size, _, by rw [Addr.add_mid], h5, h6, slice_nth h7 hlt, (h8.drop _).take _⟩
    · cases h
  · rename_i n t xs i hv hv'
    obtain ⟨rfl, hv⟩ := V.mk.inj hv
    cases hv
    obtain ⟨k, rfl⟩ := numV_rep hv' hi
    split at h
    · rename_i hs
      cases h
      obtain ⟨h0, h1⟩ := hp
      have h1 : i < (n : Int) := h1
      obtain ⟨te, hu, _, hte⟩ := hT.is hs
      obtain ⟨g, off, cs, rfl, h5, h6, h7, h8⟩ := ha
      exact .still (indexAt_arr hu hte.sizeOf h0 h1) ⟨g, off + i.toNat * t.size, _, by rw [Addr.add_mid], h5, h6, arr_nth h7 (by omega), (h8.drop _).take _⟩
    · cases h
  · rename_i n t o rt p i hv hv'
    obtain ⟨rfl, hv⟩ := V.mk.inj hv
    cases hv
    obtain ⟨k, rfl⟩ := numV_rep hv' hi
    split at h
    · rename_i hs
      cases h
      obtain ⟨h0, h1⟩ := hp
      have h1 : i < (n : Int) := h1
      obtain ⟨te, hu, _, hte⟩ := hT.is hs
      obtain ⟨g, h2, rfl⟩ := ha
      exact .still (indexAt_arr hu hte.sizeOf h0 h1) ⟨g, h2, by rw [Addr.add_mid]; rfl⟩
    · cases h
  · rename_i t' j i hv hv'
    obtain ⟨rfl, hv⟩ := V.mk.inj hv
    cases hv
    obtain ⟨k, rfl⟩ := numV_rep hv' hi
    split at h
    · rename_i te0 t xs he
      split at h
      · rename_i hs
        cases h
        obtain ⟨h0, h1⟩ := hp
        have h1 : i < (List.length xs : Nat) := h1
        obtain ⟨te, hu, _, hte⟩ := hT.is hs
        have hub : ua = β j := ha
        obtain ⟨cs, h2, h3, h4⟩ := hown j _ he
        rcases h3.2 with ⟨h5, h6⟩ | ⟨g, cap, cur, h5, _⟩
        · have : List.length xs = 0 := h6
          omega
        · rw [hub, h5]
          exact .still (indexAt_slice hu hte.sizeOf h0 h1) ⟨g, by rw [h5]; rfl, by rw [Addr.add_mid, Nat.zero_add]; rfl⟩
      · cases h
    · cases h
  · cases h

/-! ### places inside what is the call's own -/
def RootRep (w : World) (O : Nat → Prop) : (e : Bool) → (r : Ty) → r.T → List Value → Prop
  | true, .slice s, xs, cs => RepL (RepC w O s) xs cs
  | true, _, _, _ => False
  | false, r, x, cs => RepC w O r x cs
theorem Path.rep : ∀ {r t : Ty} (p : Path r t) (x : r.T) (cs : List Value), RootRep w O p.isElm r x cs → allP (p.vcs x) → RepC w O t (p.get x) ((cs.drop p.off).take t.size) ∧ p.off + t.size ≤ cs.length := by
  intro r t p
  induction p with
  | here =>
    intro x cs h _
    have hl := RepC.len _ _ _ h
    refine ⟨?_, by simp [Path.off, hl]⟩
    simp only [Path.off, List.drop_zero, ← hl, List.take_length]
    exact h
  | @fst r a b p ih =>
    intro x cs h hv
    obtain ⟨⟨c1, c2, h1, h2, h3⟩, h4⟩ := ih x cs h hv
    have l1 := RepC.len _ _ _ h2
    simp only [Ty.size] at h4 h1
    refine ⟨?_, by simp only [Path.off]; omega⟩
    have : (cs.drop p.off).take a.size = c1 := by
      have h5 : ((cs.drop p.off).take (a.size + b.size)).take a.size = c1 := by rw [h1, ← l1, List.take_left]
      rwa [List.take_take, Nat.min_eq_left (by omega)] at h5
    simp only [Path.off, Path.get, this]
    exact h2
  | @snd r a b p ih =>
    intro x cs h hv
    obtain ⟨⟨c1, c2, h1, h2, h3⟩, h4⟩ := ih x cs h hv
    have l1 := RepC.len _ _ _ h2
    simp only [Ty.size] at h4 h1
    refine ⟨?_, by simp only [Path.off]; omega⟩
    have : (cs.drop (p.off + a.size)).take b.size = c2 := by
      have h5 : ((cs.drop p.off).take (a.size + b.size)).drop a.size = c2 := by rw [h1, ← l1, List.drop_left]
      rw [List.drop_take, List.drop_drop] at h5
      rwa [show a.size + b.size - a.size = b.size by omega] at h5
    simp only [Path.off, Path.get, this]
    exact h3
  | @idx r t n p k ih =>
    intro x cs h hv
    rw [Path.vcs, allP_append] at hv
    have hk : k < n := hv.2
    obtain ⟨h1, h4⟩ := ih x cs h hv.1
    simp only [Ty.size] at h1 h4
    have h2 := arr_nth h1 hk
    have hle : k * t.size + t.size ≤ n * t.size := by
      have := Nat.mul_le_mul_right t.size (show k + 1 ≤ n by omega)
      rwa [Nat.add_mul, Nat.one_mul] at this
    refine ⟨?_, by simp only [Path.off]; omega⟩
    simp only [Path.off, Path.get]
    rw [List.drop_take, List.drop_drop, List.take_take, Nat.min_eq_left (by omega)] at h2
    exact h2
  | @elm t k =>
    intro x cs h hv
    have hk : k < List.length x := hv
    have h' : RepL (RepC w O t) x cs := h
    refine ⟨slice_nth h' hk, ?_⟩
    have hl := h'.len (fun x c => RepC.len t x c)
    have := Nat.mul_le_mul_right t.size (show k + 1 ≤ List.length x by omega)
    rw [Nat.add_mul, Nat.one_mul] at this
    simp only [Path.off]
    omega
theorem OwnRep.cells {bv : Value} {o : OObj} (h : OwnRep w O β B bv o) (hH : ∀ vs, o ≠ .hbox vs) {g : Nat} (hg : blockOf bv = some g) : ∃ cs, RootRep w O o.isBuf o.v.t o.v.x cs ∧ CellsAt w g 0 cs := by
  cases o with
  | box t x =>
    obtain ⟨g', cs, ty, rfl, h1, h2, h3⟩ := h
    cases hg
    refine ⟨cs, h3, fun j u hu => ?_⟩
    rw [Nat.zero_add]
    unfold World.cell?
    rw [h2]
    simpa using hu
  | buf te t xs =>
    obtain ⟨cs, h1, h2, h3⟩ := h
    rcases h2.2 with ⟨rfl, _⟩ | ⟨g', cap, cur, rfl, h4, h5, h6, h7, h8, h9⟩
    · cases hg
    · cases hg
      refine ⟨cs, h1, fun j u hu => ?_⟩
      rw [Nat.zero_add]
      unfold World.cell?
      rw [h5]
      simp only [Option.isSome_none, Bool.false_eq_true, if_false]
      rw [← h9, List.getElem?_take] at hu
      split at hu
      · simpa using hu
      · cases hu
  | hbox vs => exact absurd rfl (hH vs)
theorem rootRep_cast {e : Bool} {r s : Ty} (h : r = s) {x : r.T} {cs : List Value} (hr : RootRep w O e r x cs) : RootRep w O e s (h ▸ x) cs := by subst h; exact hr

theorem rootX_spec {r : Ty} {o : OObj} {y : r.T} (h : rootX r o = some y) : o.v = ⟨r, y⟩ := by
  unfold rootX at h
  generalize o.v = ov at h ⊢
  obtain ⟨s, x⟩ := ov
  exact castO_spec h
theorem rootX_notH {r : Ty} {o : OObj} {y : r.T} (h : rootX r o = some y) : ∀ vs, o ≠ .hbox vs := by
  rintro vs rfl
  have := rootX_spec h
  obtain ⟨rfl, _⟩ := V.mk.inj this
  cases h
/-! ### cells of variables that hold handles -/
theorem RepH.append : ∀ {vs ws : List V} {cs ds : List Value}, RepH w O β vs cs → RepH w O β ws ds → RepH w O β (vs ++ ws) (cs ++ ds)
  | [], _, _, _, h, h' => by
    have h : _ = [] := h
    subst h
    exact h'
  | v :: r, _, _, _, ⟨u, s, e, h2, h3, h4⟩, h' => by subst e; exact ⟨u, s ++ _, rfl, h2, h3, RepH.append h4 h'⟩
theorem RepH.len : ∀ {vs : List V} {cs : List Value}, RepH w O β vs cs → vs.length = cs.length
  | [], _, h => by
    have h : _ = [] := h
    subst h
    rfl
  | v :: r, _, ⟨u, s, e, _, _, h4⟩ => by subst e; simp [RepH.len h4]
theorem RepH.take : ∀ (k : Nat) {vs : List V} {cs : List Value}, RepH w O β vs cs → RepH w O β (vs.take k) (cs.take k)
  | 0, _, _, _ => rfl
  | k + 1, [], _, h => by
    have h : _ = [] := h
    subst h
    exact rfl
  | k + 1, v :: r, _, ⟨u, s, e, h2, h3, h4⟩ => by subst e; exact ⟨u, s.take k, rfl, h2, h3, RepH.take k h4⟩
theorem RepH.drop : ∀ (k : Nat) {vs : List V} {cs : List Value}, RepH w O β vs cs → RepH w O β (vs.drop k) (cs.drop k)
  | 0, _, _, h => h
  | k + 1, [], _, h => by
    have h : _ = [] := h
    subst h
    exact rfl
  | k + 1, v :: r, _, ⟨u, s, e, h2, h3, h4⟩ => by subst e; exact RepH.drop k h4
theorem leavesT_repC : ∀ (t : Ty) (x : t.T) (cs : List Value), t.data = true → t.noArr = true → RepC w O t x cs → RepH w O β (leavesT t x) cs := by
  intro t
  induction t with
  | pair a b iha ihb =>
    rintro x cs hd hn ⟨c1, c2, rfl, h1, h2⟩
    simp only [Ty.data, Bool.and_eq_true] at hd
    simp only [Ty.noArr, Bool.and_eq_true] at hn
    exact (iha _ _ hd.1 hn.1 h1).append (ihb _ _ hd.2 hn.2 h2)
  | unit => intro x cs _ _ h; exact h
  | arr n t ih => intro x cs _ hn; cases hn
  | bool => intro x cs _ _ h; cases h; exact ⟨_, _, rfl, rfl, rfl, rfl⟩
  | int k => intro x cs _ _ h; cases h; exact ⟨_, _, rfl, rfl, rfl, rfl⟩
  | str => rintro x cs _ _ ⟨h, h'⟩; subst h; exact ⟨_, _, rfl, rfl, ⟨rfl, h'⟩, rfl⟩
  | slice t ih =>
    rintro x cs _ _ ⟨v, rfl, h⟩
    refine ⟨v, [], rfl, ?_, RepV.ofSlice h, rfl⟩
    rcases h with ⟨_, A, c, rfl, _⟩ | ⟨g, off, c, vs, rfl, _⟩ <;> rfl
  | _ => intro x cs hd; cases hd
theorem leavesT_rep : ∀ (t : Ty) (x : t.T) (u : Value), t.leafy = true → RepV w O β t x u → RepH w O β (leavesT t x) u.cells.toList := by
  intro t
  induction t with
  | optr t _ => rintro x u _ h; have h' := h; obtain ⟨g, _, rfl⟩ := h'; exact ⟨_, _, rfl, rfl, h, rfl⟩
  | hptr => rintro x u _ h; have h' := h; obtain ⟨g, _, rfl⟩ := h'; exact ⟨_, _, rfl, rfl, h, rfl⟩
  | vptr t _ => rintro x u _ h; have h' := h; obtain ⟨g, off, cs, rfl, _⟩ := h'; exact ⟨_, _, rfl, rfl, h, rfl⟩
  | clo f t _ => rintro x u _ h; have h' := h; obtain ⟨vs, rfl, _⟩ := h'; exact ⟨_, _, rfl, rfl, h, rfl⟩
  | mapL => rintro x u _ h; have h' := h; obtain ⟨r, ms, ck, rfl, _⟩ := h'; exact ⟨_, _, rfl, rfl, h, rfl⟩
  | hcons a b _ ihb =>
    rintro x u hl ⟨y, s, rfl, h2, h3, h4⟩
    exact ⟨y, s, rfl, h2, h3, ihb _ _ hl h4⟩
  | pair a b _ _ =>
    intro x u hl h
    have hd : (Ty.pair a b).data = true ∧ (Ty.pair a b).noArr = true := by
      have hl : ((Ty.pair a b).data && (Ty.pair a b).noArr) = true := hl
      simpa using hl
    obtain ⟨cs, rfl, h1⟩ := (RepD.agg rfl).1 h
    exact leavesT_repC _ _ _ hd.1 hd.2 h1
  | unit =>
    intro x u hl h
    obtain ⟨cs, rfl, h1⟩ := (RepD.agg rfl).1 h
    exact leavesT_repC _ _ _ rfl rfl h1
  | bool => intro x u _ h; have := RepV.bool h; subst this; exact ⟨_, _, rfl, rfl, rfl, rfl⟩
  | int k => intro x u _ h; have := RepV.int h; subst this; exact ⟨_, _, rfl, rfl, rfl, rfl⟩
  | str => intro x u _ h; have := RepV.str h; obtain ⟨rfl, h'⟩ := this; exact ⟨_, _, rfl, rfl, ⟨rfl, h'⟩, rfl⟩
  | slice t _ =>
    intro x u hl h
    have hd : (Ty.slice t).data = true := by
      have hl : ((Ty.slice t).data && (Ty.slice t).noArr) = true := hl
      simp only [Bool.and_eq_true] at hl
      exact hl.1
    have h1 := (RepD.scalar rfl).1 h
    have h2 : u.cells.toList = [u] := by
      obtain ⟨v, e, h2⟩ := h1
      cases e
      rcases h2 with ⟨_, A, c, rfl, _⟩ | ⟨g, off, c, vs, rfl, _⟩ <;> rfl
    rw [h2]
    exact leavesT_repC _ _ _ hd rfl h1
  | arr n t _ =>
    intro x u hl
    have hl : ((Ty.arr n t).data && (Ty.arr n t).noArr) = true := hl
    simp [Ty.noArr] at hl
  | _ => intro x u hl; cases hl
theorem leavesV_rep (hown : ∀ i o, Owns.get E i = some o → OwnRep w O β B (β i) o) {v : V} {ls : List V} (h : leavesV E v = some ls) {u : Value} (hu : RepV w O β v.t v.x u) : RepH w O β ls u.cells.toList := by
  obtain ⟨t, x⟩ := v
  unfold leavesV at h
  split at h
  · rename_i y he
    obtain ⟨rfl, he⟩ := V.mk.inj he
    cases he
    have hu : u = y := hu
    subst hu
    unfold leavesLit at h
    split at h
    · rename_i cs
      split at h
      · rename_i hall
        cases h
        have key : ∀ l : List Value, l.all Value.oneCell' = true → RepH w O β (l.map evC) l := by
          intro l
          induction l with
          | nil => intro _; exact rfl
          | cons c l ih =>
            intro hl
            simp only [List.all_cons, Bool.and_eq_true] at hl
            exact ⟨c, l, rfl, hl.1, evC_rep c, ih hl.2⟩
        exact key _ hall
      · cases h
    · cases h
    · rename_i h1 h2
      cases h
      have hc : u.cells.toList = [u] ∧ u.oneCell' = true := by
        cases u <;> first | exact ⟨rfl, rfl⟩ | exact absurd rfl (h1 _) | exact absurd rfl (h2 _)
      rw [hc.1]
      exact ⟨u, [], rfl, hc.2, rfl, rfl⟩
  · rename_i t' j he
    obtain ⟨rfl, he⟩ := V.mk.inj he
    cases he
    split at h
    · rename_i te τ xs hb
      cases h
      have hu' : u = β j := hu
      have hc : u.cells.toList = [u] ∧ u.oneCell' = true := by
        obtain ⟨cs, h1, h2, h3⟩ := hown _ _ hb
        rw [hu']
        rcases h2.2 with ⟨e, _⟩ | ⟨g, cap, cur, e, _⟩ <;> rw [e] <;> exact ⟨rfl, rfl⟩
      rw [hc.1]
      exact ⟨u, [], rfl, hc.2, hu, rfl⟩
    · cases h
  · rename_i h1 h2 he
    obtain ⟨rfl, he⟩ := V.mk.inj he
    cases he
    split at h
    · rename_i hl
      cases h
      exact leavesT_rep _ _ _ hl hu
    · cases h
theorem unD_rep : ∀ (t : Ty) (vs : List V) (x : t.T) (r : List V) (cs : List Value), t.data = true → unD t vs = some (x, r) → RepH w O β vs cs → ∃ c1 c2, cs = c1 ++ c2 ∧ RepC w O t x c1 ∧ RepH w O β r c2 := by
  have one : ∀ (t : Ty) (vs : List V) (x : t.T) (r : List V) (cs : List Value), t.data = true → t.isAgg = false → (match vs with | v :: r => (match coe t v with | some x => some (x, r) | none => none) | [] => none) = some (x, r) → RepH w O β vs cs → ∃ c1 c2, cs = c1 ++ c2 ∧ RepC w O t x c1 ∧ RepH w O β r c2 := by
    intro t vs x r cs hd ha h hr
    cases vs with
    | nil => cases h
    | cons v vs =>
      simp only at h
      split at h
      · rename_i y hy
        cases h
        obtain ⟨u, s, rfl, h2, h3, h4⟩ := hr
        exact ⟨[u], s, rfl, (RepD.scalar ha).1 (coe_rep hd hy h3), h4⟩
      · cases h
  intro t
  induction t with
  | pair a b iha ihb =>
    intro vs x r cs hd h hr
    simp only [Ty.data, Bool.and_eq_true] at hd
    simp only [unD] at h
    split at h
    · rename_i y r1 h1
      split at h
      · rename_i z r2 h2
        cases h
        obtain ⟨c1, c2, rfl, g1, g2⟩ := iha _ _ _ _ hd.1 h1 hr
        obtain ⟨c3, c4, rfl, g3, g4⟩ := ihb _ _ _ _ hd.2 h2 g2
        exact ⟨c1 ++ c3, c4, by simp, ⟨c1, c3, rfl, g1, g3⟩, g4⟩
      · cases h
    · cases h
  | unit =>
    intro vs x r cs _ h hr
    cases h
    exact ⟨[], cs, rfl, rfl, hr⟩
  | arr n t _ => intro vs x r cs _ h; cases h
  | bool => intro vs x r cs hd h hr; exact one .bool vs x r cs hd rfl (by cases vs <;> exact h) hr
  | int k => intro vs x r cs hd h hr; exact one (.int k) vs x r cs hd rfl (by cases vs <;> exact h) hr
  | str => intro vs x r cs hd h hr; exact one .str vs x r cs hd rfl (by cases vs <;> exact h) hr
  | slice t _ => intro vs x r cs hd h hr; exact one (.slice t) vs x r cs hd rfl (by cases vs <;> exact h) hr
  | _ => intro vs x r cs hd; cases hd
theorem loadOne {τ : Ty} {t : TypeId} (ht : Lay P τ (.inl t)) (ha : τ.isAgg = false) {g off : Nat} {u : Value} (hc : w.cell? ⟨g, off, none⟩ = some u) :
    (Instr.loadAt t (.pointer (some ⟨g, off, none⟩))).run P w = .ok u w := by
  unfold Instr.loadAt Instr.sureAddr Go.loadVar
  simp [Sem.run_bind, ht.isAgg, ha, load, Sem.run, hc]
theorem OwnRep.hcells {bv : Value} {vs : List V} (h : OwnRep w O β B bv (.hbox vs)) {g : Nat} (hg : blockOf bv = some g) : ∃ cs, RepH w O β vs cs ∧ CellsAt w g 0 cs := by
  obtain ⟨g', cs, ty, rfl, h1, h2, h3⟩ := h
  cases hg
  refine ⟨cs, h3, fun j u hu => ?_⟩
  rw [Nat.zero_add]
  unfold World.cell?
  rw [h2]
  simpa using hu
/-! ### loads, fields -/
theorem loadV_run (hT : TOk P T Q) (hown : ∀ i o, Owns.get E i = some o → OwnRep w O β B (β i) o) {t : TypeId} {va : V} {r : List Prop × V} (h : loadV T E t va = some r) (hp : allP r.1) {ua : Value}
    (ha : RepV w O β va.t va.x ua) : ∃ u, (Instr.loadAt t ua).run P w = .ok u w ∧ RepV w O β r.2.t r.2.x u := by
  obtain ⟨ta, xa⟩ := va
  unfold loadV at h
  split at h
  · rename_i τ x hv
    obtain ⟨rfl, hv⟩ := V.mk.inj hv
    cases hv
    split at h
    · rename_i hs
      cases h
      obtain ⟨g, off, cs, rfl, _, _, h4, h5⟩ := ha
      obtain ⟨u, h6, h7⟩ := (hT.is hs).loadAt h4 h5
      exact ⟨_, h6, (repV_data (hT.is hs).data).2 h7⟩
    · cases h
  · rename_i g off τ x hv
    obtain ⟨rfl, hv⟩ := V.mk.inj hv
    cases hv
    split at h
    · rename_i hs
      cases h
      obtain ⟨cs, rfl, _, _, h4, h5⟩ := ha
      obtain ⟨u, h6, h7⟩ := (hT.is hs).loadAt h4 h5
      exact ⟨_, h6, (repV_data (hT.is hs).data).2 h7⟩
    · cases h
  · rename_i τ i rt p hv
    obtain ⟨rfl, hv⟩ := V.mk.inj hv
    cases hv
    split at h
    · rename_i o he
      split at h
      · rename_i hs
        split at h
        · rename_i y hy
          rw [Path.getO_eq] at h
          cases h
          simp only [Bool.and_eq_true, beq_iff_eq] at hs
          obtain ⟨g, h1, rfl⟩ := ha
          obtain ⟨cs, h2, h3⟩ := (hown _ _ he).cells (rootX_notH hy) h1
          have h4 : RootRep w O o.isBuf rt y cs := by
            rw [rootX_spec hy] at h2
            exact h2
          rw [← hs.2] at h4
          obtain ⟨h5, h6⟩ := Path.rep p _ _ h4 hp
          have h7 := (h3.drop (Path.off p)).take τ.size
          rw [Nat.zero_add] at h7
          obtain ⟨u, h8, h9⟩ := (hT.is hs.1).loadAt h5 h7
          exact ⟨_, h8, (repV_data (hT.is hs.1).data).2 h9⟩
        · cases h
      · cases h
    · cases h
  · rename_i i k hv
    obtain ⟨rfl, hv⟩ := V.mk.inj hv
    cases hv
    split at h
    · rename_i vs he
      split at h
      · rename_i τ hτ
        obtain ⟨g, h1, rfl⟩ := ha
        obtain ⟨cs, h2, h3⟩ := (hown _ _ he).hcells h1
        have hl := hT.lay _ _ hτ
        have h4 := h2.drop k
        have h5 := h3.drop k
        rw [Nat.zero_add] at h5
        split at h
        · split at h
          · rename_i x r hx
            cases h
            obtain ⟨c1, c2, h6, h7, _⟩ := unD_rep _ _ _ _ _ hl.data hx h4
            have h8 : CellsAt w g k c1 := fun j u hu => h5 j u (by rw [h6, List.getElem?_append_left (List.getElem?_eq_some_iff.1 hu).1]; exact hu)
            obtain ⟨u, h9, h10⟩ := hl.loadAt h7 h8
            exact ⟨u, h9, (repV_data hl.data).2 h10⟩
          · cases h
        · rename_i hag
          split at h
          · rename_i v r hv
            split at h
            · cases h
              rw [hv] at h4
              obtain ⟨u, s, h6, h7, h8, _⟩ := h4
              have h9 : w.cell? ⟨g, k, none⟩ = some u := by
                have := h5 0 u (by rw [h6]; rfl)
                simpa using this
              exact ⟨u, loadOne hl (by simpa using hag) h9, h8⟩
            · cases h
          · cases h
      · cases h
    · cases h
  · cases h
theorem loadV_yields (hT : TOk P T Q) (hown : ∀ i o, Owns.get E i = some o → OwnRep w O β B (β i) o) {t : TypeId} {va : V} {r : List Prop × V} (h : loadV T E t va = some r) (hp : allP r.1) {ua : Value}
    (ha : RepV w O β va.t va.x ua) : Yields P (Instr.loadAt t ua) w O β r.2 := by
  obtain ⟨u, h1, h2⟩ := loadV_run hT hown h hp ha
  exact .still h1 h2
theorem fieldsV_yields (hT : TOk P T Q) {xt : TypeId} {va : V} {n : Nat} {r : List Prop × V} (h : fieldsV T xt va n = some r) {ua : Value} (ha : RepV w O β va.t va.x ua) : Yields P (Instr.field xt ua n) w O β r.2 := by
  unfold fieldsV at h
  split at h
  · rename_i hs
    obtain ⟨v, h1, rfl⟩ := withP_some h
    have hl := hT.is hs
    obtain ⟨y, h2, h3⟩ := hl.field h1 ((repV_data hl.data).1 ha)
    have hd : v.t.data = true := by
      obtain ⟨fs, _, h5⟩ := hl.struct h1
      have ha' := (repV_data hl.data).1 ha
      have hagg : va.t.isAgg = true := by
        obtain ⟨t, x⟩ := va
        cases t <;> first | rfl | (cases n <;> cases h1)
      obtain ⟨cs, _, hc⟩ := (RepD.agg hagg).1 ha'
      obtain ⟨_, _, _, h6, _⟩ := fieldV_spec n _ _ v _ _ cs h1 h5 hc
      exact h6.data
    exact .still h2 ((repV_data hd).2 h3)
  · cases h
theorem fieldP_spec : ∀ (n : Nat) (r τ : Ty) (p : Path r τ) (t : Ty) (q : Path r t) (fs : List Field) (off : Nat), fieldP n r τ p = some ⟨t, q⟩ → Lay P τ (.inr (fs, off)) →
    ∃ f, fs[n]? = some f ∧ f.offset + p.off = off + q.off ∧ Lay P t (.inl f.type)
  | 0, r, .pair a b, p, t, q, fs, off, h, hl => by
    cases h
    obtain ⟨f, rest, h1, h2, h3, h4⟩ := hl
    simp only at h1 h2
    subst h1
    exact ⟨f, rfl, by simp [Path.off, h2], h3⟩
  | n + 1, r, .pair a b, p, t, q, fs, off, h, hl => by
    obtain ⟨f, rest, h1, h2, h3, h4⟩ := hl
    simp only at h1 h2
    subst h1
    obtain ⟨f', h5, h6, h7⟩ := fieldP_spec n r b (.snd p) t q rest _ h h4
    refine ⟨f', by simpa using h5, ?_, h7⟩
    simp only [Path.off] at h6
    omega
  | 0, _, .unit, _, _, _, _, _, h, _ => by cases h
  | _ + 1, _, .unit, _, _, _, _, _, h, _ => by cases h
  | n, _, .bool, _, _, _, _, _, h, _ => by cases n <;> cases h
  | n, _, .int _, _, _, _, _, _, h, _ => by cases n <;> cases h
  | n, _, .str, _, _, _, _, _, h, _ => by cases n <;> cases h
  | n, _, .arr _ _, _, _, _, _, _, h, _ => by cases n <;> cases h
  | n, _, .slice _, _, _, _, _, _, h, _ => by cases n <;> cases h
  | n, _, .junk, _, _, _, _, _, h, _ => by cases n <;> cases h
  | n, _, .lit, _, _, _, _, _, h, _ => by cases n <;> cases h
  | n, _, .vptr _, _, _, _, _, _, h, _ => by cases n <;> cases h
  | n, _, .cptr _ _ _, _, _, _, _, _, h, _ => by cases n <;> cases h
  | n, _, .optr _, _, _, _, _, _, h, _ => by cases n <;> cases h
  | n, _, .obuf _, _, _, _, _, _, h, _ => by cases n <;> cases h
  | n, _, .tup _ _, _, _, _, _, _, h, _ => by cases n <;> cases h
  | n, _, .cond _, _, _, _, _, _, h, _ => by cases n <;> cases h
theorem Lay.struct' {n : Nat} {r τ : Ty} {s : TypeId} (h : Lay P τ (.inl s)) {p : Path r τ} {q : (t : Ty) × Path r t} (hv : fieldP n r τ p = some q) : ∃ fs, P.underlying s = some (.struct fs) ∧ Lay P τ (.inr (fs.toList, 0)) := by
  cases τ with
  | pair a b =>
    obtain ⟨fs, h1, _, f, r, h2, h3, h4, h5⟩ := h
    exact ⟨fs, h1, f, r, h2, h3, h4, by simpa using h5⟩
  | _ => cases n <;> cases hv
theorem fieldAt_run {s : TypeId} {fs : Array Field} (hu : P.underlying s = some (.struct fs)) {n : Nat} {f : Field} (hf : fs[n]? = some f) {t : Ty} (ht : Lay P t (.inl f.type)) (hz : 0 < t.size) (A : Addr) :
    (Instr.fieldAt s (.pointer (some A)) n).run P w = .ok (.pointer (some (A.add f.offset))) w := by
  unfold Instr.fieldAt
  simp only [Sem.run_bind, run_underlying hu, Result.andThen_ok, hf, Instr.sureAddr, Sem.run_pure, fieldPlace, ht.sizeOf]
  rw [if_neg (by omega)]
  rfl
theorem fieldAddrV_yields (hT : TOk P T Q) {s : TypeId} {va : V} {n : Nat} {r : List Prop × V} (h : fieldAddrV T s va n = some r) {ua : Value} (ha : RepV w O β va.t va.x ua) : Yields P (Instr.fieldAt s ua n) w O β r.2 := by
  obtain ⟨ta, xa⟩ := va
  unfold fieldAddrV at h
  split at h
  · rename_i τ x hv
    obtain ⟨rfl, hv⟩ := V.mk.inj hv
    cases hv
    split at h
    · rename_i hs
      split at h
      · rename_i v hf
        split at h
        · rename_i hz
          cases h
          have hl := hT.is hs
          obtain ⟨fs, h1, h2⟩ := hl.struct hf
          obtain ⟨g, off, cs, rfl, h3, h4, h5, h6⟩ := ha
          obtain ⟨f, h7, h8, h9, h10⟩ := fieldV_spec n _ _ v _ _ cs hf h2 h5
          refine .still (fieldAt_run h1 (by simpa using h7) h9 (by simpa using hz) _) ⟨g, off + fieldOff n τ, _, ?_, h3, h4, h10, (h6.drop _).take _⟩
          rw [Addr.add_mid, h8, Nat.zero_add]
        · cases h
      · cases h
    · cases h
  · rename_i g off τ x hv
    obtain ⟨rfl, hv⟩ := V.mk.inj hv
    cases hv
    split at h
    · rename_i hs
      split at h
      · rename_i v hf
        split at h
        · rename_i hz
          cases h
          have hl := hT.is hs
          obtain ⟨fs, h1, h2⟩ := hl.struct hf
          obtain ⟨cs, rfl, h3, h4, h5, h6⟩ := ha
          obtain ⟨f, h7, h8, h9, h10⟩ := fieldV_spec n _ _ v _ _ cs hf h2 h5
          refine .still (fieldAt_run h1 (by simpa using h7) h9 (by simpa using hz) _) ⟨g, off + fieldOff n τ, _, ?_, h3, h4, h10, (h6.drop _).take _⟩
          rw [Addr.add_mid, h8, Nat.zero_add]
        · cases h
      · cases h
    · cases h
  · rename_i τ i rt p hv
    obtain ⟨rfl, hv⟩ := V.mk.inj hv
    cases hv
    split at h
    · rename_i hs
      split at h
      · rename_i t q hf
        split at h
        · rename_i hz
          cases h
          have hl := hT.is hs
          obtain ⟨fs, h1, h2⟩ := hl.struct' hf
          obtain ⟨g, h3, rfl⟩ := ha
          obtain ⟨f, h7, h8, h9⟩ := fieldP_spec n _ _ _ t q _ _ hf h2
          refine .still (fieldAt_run h1 (by simpa using h7) h9 (by simpa using hz) _) ⟨g, h3, ?_⟩
          rw [Addr.add_mid, show Path.off p + f.offset = q.off by omega]
        · cases h
      · cases h
    · cases h
  · rename_i i k hv
    obtain ⟨rfl, hv⟩ := V.mk.inj hv
    cases hv
    split at h
    · rename_i τ hs
      split at h
      · rename_i t q hf
        split at h
        · rename_i hz
          cases h
          have hl := hT.lay _ _ hs
          obtain ⟨fs, h1, h2⟩ := hl.struct' hf
          obtain ⟨g, h3, rfl⟩ := ha
          obtain ⟨f, h7, h8, h9⟩ := fieldP_spec n _ _ _ t q _ _ hf h2
          refine .still (fieldAt_run h1 (by simpa using h7) h9 (by simpa using hz) _) ⟨g, h3, ?_⟩
          have h8' : f.offset + 0 = 0 + q.off := h8
          rw [Addr.add_mid, show k + f.offset = k + q.off by omega]
        · cases h
      · cases h
    · cases h
  · cases h
theorem tupV_spec : ∀ (n : Nat) (τ : Ty) (x : τ.T) (v : V) (vs : List Value), tupV n τ x = some v → RepTup w O τ x vs → ∃ u, vs[n]? = some u ∧ RepD w O v.t v.x u
  | 0, .tup a b, x, v, vs, h, hr => by
    cases h
    obtain ⟨u, r, rfl, h1, h2⟩ := hr
    exact ⟨u, rfl, h1⟩
  | n + 1, .tup a b, x, v, vs, h, hr => by
    obtain ⟨u, r, rfl, h1, h2⟩ := hr
    obtain ⟨u', h3, h4⟩ := tupV_spec n b x.2 v r h h2
    exact ⟨u', by simpa using h3, h4⟩
  | 0, .unit, _, _, _, h, _ => by cases h
  | _ + 1, .unit, _, _, _, h, _ => by cases h
  | n, .bool, _, _, _, h, _ => by cases n <;> cases h
  | n, .int _, _, _, _, h, _ => by cases n <;> cases h
  | n, .str, _, _, _, h, _ => by cases n <;> cases h
  | n, .arr _ _, _, _, _, h, _ => by cases n <;> cases h
  | n, .slice _, _, _, _, h, _ => by cases n <;> cases h
  | n, .junk, _, _, _, h, _ => by cases n <;> cases h
  | n, .lit, _, _, _, h, _ => by cases n <;> cases h
  | n, .vptr _, _, _, _, h, _ => by cases n <;> cases h
  | n, .cptr _ _ _, _, _, _, h, _ => by cases n <;> cases h
  | n, .optr _, _, _, _, h, _ => by cases n <;> cases h
  | n, .obuf _, _, _, _, h, _ => by cases n <;> cases h
  | n, .pair _ _, _, _, _, h, _ => by cases n <;> cases h
  | n, .cond _, _, _, _, h, _ => by cases n <;> cases h
end
end Go.Proofs.YtbbeldmcdjjnbaaDoor
namespace Go.Proofs.YtbbeldmcdjjnbaaDoor
open Go Go.RowKit
set_option linter.unusedSimpArgs false
set_option linter.unusedVariables false

section
variable {P : Program} {w : World} {O O' : Nat → Prop} {β : Nat → Value} {T : Tbl} {Q : List TypeId} {E : Owns} {F : Frame} {B : Nat} {a : Act}

theorem repD_repV {t : Ty} {x : t.T} {u : Value} (h : RepD w O t x u) : RepV w O β t x u := by
  cases t <;> first | exact h | exact absurd ((RepD.scalar rfl).1 h) (by simp [RepC])
theorem extract_yields {va : V} {n : Nat} {v : V} (h : tupV n va.t va.x = some v) {ua : Value} (ha : RepV w O β va.t va.x ua) : Yields P (Instr.extract ua n) w O β v := by
  obtain ⟨ta, xa⟩ := va
  cases ta <;> first | (cases n <;> cases h; done) | skip
  obtain ⟨vs, rfl, h1⟩ := ha
  obtain ⟨u, h2, h3⟩ := tupV_spec n _ _ v vs h h1
  refine .still (u := u) ?_ (repD_repV h3)
  unfold Instr.extract
  simp [h2]
theorem lenV_yields (hT : TOk P T Q) {xt : TypeId} {va : V} {r : List Prop × V} (h : lenV T xt va = some r) {ua : Value} (ha : RepV w O' β va.t va.x ua) (ty : TypeId) : Yields P (Builtin.len_ #[xt] ty #[ua]) w O β r.2 := by
  obtain ⟨ta, xa⟩ := va
  unfold lenV at h
  split at h
  · rename_i l hv
    obtain ⟨rfl, hv⟩ := V.mk.inj hv
    cases hv
    split at h
    · rename_i hs
      cases h
      obtain ⟨e, _⟩ := RepV.str ha
      subst e
      have hsz : (⟨List.toArray l⟩ : ByteArray).size = List.length l := by simp [ByteArray.size]
      refine .still (u := .int .i64 ((List.length l : Nat) : Int)) ?_ (RepV.ofInt (k := .i64))
      unfold Builtin.len_
      simp [Sem.run_bind, run_underlying (hT.is hs).1, goInt, hsz]
    · cases h
  · rename_i t l hv
    obtain ⟨rfl, hv⟩ := V.mk.inj hv
    cases hv
    split at h
    · rename_i hs
      cases h
      obtain ⟨te, hu, _⟩ := hT.is hs
      obtain ⟨A, c, e, _⟩ := (RepV.slice ha).nlen
      subst e
      refine .still (u := .int .i64 ((List.length l : Nat) : Int)) ?_ (RepV.ofInt (k := .i64))
      unfold Builtin.len_
      simp [Sem.run_bind, run_underlying hu, goInt]
    · cases h
  · rename_i n t l hv
    obtain ⟨rfl, hv⟩ := V.mk.inj hv
    cases hv
    split at h
    · rename_i hs
      cases h
      obtain ⟨te, hu, _⟩ := hT.is hs
      refine .still (u := .int .i64 ((n : Nat) : Int)) ?_ (RepV.ofInt (k := .i64))
      unfold Builtin.len_
      simp [Sem.run_bind, run_underlying hu, goInt]
    · cases h
  · cases h

/-! ### slices -/
theorem sliceBound_run {k : IntKind} {i : Int} {y : Nat} {c : BoundsCode} (h0 : 0 ≤ i) (h1 : i ≤ y) : (Instr.sliceBound (.int k i) y c).run P w = .ok i.toNat w := by
  unfold Instr.sliceBound
  simp [Sem.run_bind, asIntOf_int, h0, h1]
/-- the bounds of a cut -/
theorem cut_bounds {α : Type} {xs : List α} {lo hi : Option V} {r : List Prop × List α} (h : cutL xs lo hi = some r) (hp : allP r.1) {ul uh : Option Value} (hl : ∀ v, lo = some v → ∃ u, ul = some u ∧ RepV w O β v.t v.x u) (hl0 : lo = none → ul = none)
    (hh : ∀ v, hi = some v → ∃ u, uh = some u ∧ RepV w O β v.t v.x u) (hh0 : hi = none → uh = none) (b : Bool) {cap : Nat} (hc : xs.length ≤ cap) :
    ∃ i j, i ≤ j ∧ j ≤ xs.length ∧ r.2 = (xs.take j).drop i ∧ (Instr.sliceBounds b xs.length cap ul uh none).run P w = .ok (i, j, cap) w := by
  cases lo with
  | none =>
    have := hl0 rfl; subst this
    cases hi with
    | none =>
      have := hh0 rfl; subst this
      cases h
      exact ⟨0, xs.length, by omega, by omega, by simp, by simp [Instr.sliceBounds]⟩
    | some v =>
      obtain ⟨u, rfl, hu⟩ := hh v rfl
      simp only [cutL] at h
      split at h
      · rename_i x hx
        cases h
        obtain ⟨k, rfl⟩ := numV_rep hx hu
        obtain ⟨h0, h1⟩ := hp
        have h1 : x ≤ (xs.length : Int) := h1
        refine ⟨0, x.toNat, by omega, by omega, by simp, ?_⟩
        have hb := sliceBound_run (P := P) (w := w) (k := k) (y := cap) (c := if b then .sliceAcap else .sliceAlen) h0 (by omega)
        simp only [Instr.sliceBounds, Sem.run_bind, Sem.run_pure, Result.andThen_ok, hb]
      · cases h
  | some v =>
    obtain ⟨u, rfl, hu⟩ := hl v rfl
    cases hi with
    | none =>
      have := hh0 rfl; subst this
      simp only [cutL] at h
      split at h
      · rename_i x hx
        cases h
        obtain ⟨k, rfl⟩ := numV_rep hx hu
        obtain ⟨h0, h1⟩ := hp
        have h1 : x ≤ (xs.length : Int) := h1
        refine ⟨x.toNat, xs.length, by omega, by omega, by simp, ?_⟩
        have hb := sliceBound_run (P := P) (w := w) (k := k) (y := xs.length) (c := .sliceB) h0 (by omega)
        simp only [Instr.sliceBounds, Sem.run_bind, Sem.run_pure, Result.andThen_ok, Option.isSome_none, Bool.false_eq_true, if_false, hb]
      · cases h
    | some v' =>
      obtain ⟨u', rfl, hu'⟩ := hh v' rfl
      simp only [cutL] at h
      split at h
      · rename_i x x' hx hx'
        cases h
        obtain ⟨k, rfl⟩ := numV_rep hx hu
        obtain ⟨l, rfl⟩ := numV_rep hx' hu'
        obtain ⟨h0, h1, h2⟩ := hp
        have h2 : x' ≤ (xs.length : Int) := h2
        refine ⟨x.toNat, x'.toNat, by omega, by omega, by simp, ?_⟩
        have hb := sliceBound_run (P := P) (w := w) (k := l) (y := cap) (c := if b then .sliceAcap else .sliceAlen) (show 0 ≤ x' by omega) (by omega)
        have hb' := sliceBound_run (P := P) (w := w) (k := k) (y := x'.toNat) (c := .sliceB) h0 (by omega)
        simp only [Instr.sliceBounds, Sem.run_bind, Sem.run_pure, Result.andThen_ok, Option.isSome_none, Bool.false_eq_true, if_false, hb, hb']
      · cases h
theorem sliceV_yields (hT : TOk P T Q) {xt : TypeId} {va : V} {lo hi : Option V} {r : List Prop × V} (h : sliceV T xt va lo hi = some r) (hp : allP r.1) {ua : Value} (ha : RepV w O β va.t va.x ua) {ul uh : Option Value}
    (hl : ∀ v, lo = some v → ∃ u, ul = some u ∧ RepV w O β v.t v.x u) (hl0 : lo = none → ul = none)
    (hh : ∀ v, hi = some v → ∃ u, uh = some u ∧ RepV w O β v.t v.x u) (hh0 : hi = none → uh = none) : Yields P (Instr.sliceAt xt ua ul uh none) w O β r.2 := by
  obtain ⟨ta, xa⟩ := va
  unfold sliceV at h
  split at h
  · rename_i l hv
    obtain ⟨rfl, hv⟩ := V.mk.inj hv
    cases hv
    split at h
    · rename_i hs
      obtain ⟨q, h1, rfl⟩ := asT_some h
      have ha : RepV w O β .str l ua := ha
      obtain ⟨e, hlen⟩ := RepV.str ha
      subst e
      have hsz : (⟨List.toArray l⟩ : ByteArray).size = List.length l := by simp [ByteArray.size]
      obtain ⟨i, j, h2, h3, h4, h5⟩ := cut_bounds (P := P) h1 hp hl hl0 hh hh0 false (cap := List.length l) (Nat.le_refl _)
      refine .still (u := .string ⟨(q.2 : List UInt8).toArray⟩) ?_ (RepV.ofStr (by rw [h4]; simp; omega))
      have hu := (hT.is hs).1
      unfold Instr.sliceAt Instr.slice
      simp only [Sem.run_bind, run_underlying hu, Result.andThen_ok, Option.isSome_none, Bool.false_eq_true, if_false, Sem.run_pure, hsz, h5]
      congr 2
      have e2 : ByteArray.extract ⟨List.toArray l⟩ i j = ⟨(List.toArray l).extract i j⟩ := by
        have := ByteArray.data_extract (a := ⟨List.toArray l⟩) (b := i) (e := j)
        cases hE : ByteArray.extract ⟨List.toArray l⟩ i j with
        | mk d => rw [hE] at this; simp only at this; rw [this]
      rw [e2, h4]
      congr 1
      simp [List.extract_eq_take_drop, List.drop_take]
    · cases h
  · rename_i t xs hv
    obtain ⟨rfl, hv⟩ := V.mk.inj hv
    cases hv
    split at h
    · rename_i hs
      obtain ⟨q, h1, rfl⟩ := asT_some h
      obtain ⟨te, hu, _, hte⟩ := hT.is hs
      show Yields P _ w O β ⟨.slice t, q.2⟩
      have key : ∀ A c, xs.length ≤ c → ∃ i j, i ≤ j ∧ j ≤ xs.length ∧ q.2 = (xs.take j).drop i ∧ (Instr.sliceAt xt (.slice A xs.length c) ul uh none).run P w = .ok (.slice (if c = i then A else A.map (·.add (i * t.size))) (j - i) (c - i)) w := by
        intro A c hc
        obtain ⟨i, j, h2, h3, h4, h5⟩ := cut_bounds (P := P) h1 hp hl hl0 hh hh0 true (cap := c) hc
        refine ⟨i, j, h2, h3, h4, ?_⟩
        unfold Instr.sliceAt Instr.slice
        simp only [Sem.run_bind, run_underlying hu, Result.andThen_ok, h5, hte.sizeOf, Sem.run_pure]
      have ha : RepV w O β (.slice t) xs ua := ha
      rcases RepV.slice ha with ⟨rfl, A, c, rfl, hc⟩ | ⟨g, off, c, vs, rfl, hx, h5, h6, h7, h8, h9, h10⟩
      · obtain ⟨i, j, h2, h3, h4, hrun⟩ := key A c (by simp)
        have hj : j = 0 := by simpa using h3
        subst hj
        refine .still hrun (RepV.ofSlice (.inl ⟨by rw [h4]; simp, (if c = i then A else A.map (·.add (i * t.size))), c - i, ?_, by omega⟩))
        rw [show 0 - i = 0 by omega]
      · obtain ⟨i, j, h2, h3, h4, hrun⟩ := key _ c h5
        refine .still hrun (RepV.ofSlice ?_)
        show RepS w O (RepC w O t) q.2 _
        have hq : (q.2 : List t.T).length = j - i := by rw [h4]; simp; omega
        by_cases hij : i = j
        · subst hij
          exact .inl ⟨by rw [h4]; simp, (if c = i then some ⟨g, off, none⟩ else (some (⟨g, off, none⟩ : Addr)).map (·.add (i * t.size))), c - i, by rw [show i - i = 0 by omega], by omega⟩
        · refine .inr ⟨g, off + i * t.size, c - i, (vs.take (j * t.size)).drop (i * t.size), ?_, ?_, by omega, by omega, h7, h8, ?_, ?_⟩
          · rw [if_neg (by omega), Option.map_some, Addr.add_mid, hq]
          · intro he; rw [he] at hq; simp at hq; omega
          · rw [h4]
            exact (h9.take (fun x c => RepC.len t x c) j).drop (fun x c => RepC.len t x c) i
          · exact (h10.take _).drop _
    · cases h
  · rename_i n t xs hv
    obtain ⟨rfl, hv⟩ := V.mk.inj hv
    cases hv
    split at h
    · rename_i hs
      simp only [Bool.and_eq_true, Nat.ble_eq] at hs
      obtain ⟨q, h1, rfl⟩ := asT_some h
      obtain ⟨te, hu, _, hte⟩ := hT.is hs.1
      show Yields P _ w O β ⟨.slice t, q.2⟩
      obtain ⟨g, off, vs, rfl, h7, h8, hc, h10⟩ : RepV w O β (.vptr (.arr n t)) xs ua := ha
      obtain ⟨hxl, h9⟩ := hc
      have hxl : List.length xs = n := hxl
      obtain ⟨i, j, h2, h3, h4, h5⟩ := cut_bounds (P := P) h1 hp hl hl0 hh hh0 false (cap := List.length xs) (Nat.le_refl _)
      have hrun : (Instr.sliceAt xt (.pointer (some ⟨g, off, none⟩)) ul uh none).run P w = .ok (.slice (some (if List.length xs = i then ⟨g, off, none⟩ else (⟨g, off, none⟩ : Addr).add (i * t.size))) (j - i) (List.length xs - i)) w := by
        rw [hxl] at h5 ⊢
        unfold Instr.sliceAt
        simp only [Sem.run_bind, run_underlying hu, Result.andThen_ok, h5, hte.sizeOf, Sem.run_pure, Instr.sureAddr]
      refine .still hrun (RepV.ofSlice ?_)
      show RepS w O (RepC w O t) q.2 _
      have hq : (q.2 : List t.T).length = j - i := by rw [h4]; simp; omega
      have hmax : List.length xs ≤ maxLen := by rw [hxl]; exact Nat.le_trans hs.2 (by unfold maxLen; omega)
      by_cases hij : i = j
      · subst hij
        exact .inl ⟨by rw [h4]; simp, _, List.length xs - i, by rw [show i - i = 0 by omega], by omega⟩
      · refine .inr ⟨g, off + i * t.size, List.length xs - i, (vs.take (j * t.size)).drop (i * t.size), ?_, ?_, by omega, by omega, h7, h8, ?_, ?_⟩
        · rw [if_neg (by omega), Addr.add_mid, hq]
        · intro he; rw [he] at hq; simp at hq; omega
        · rw [h4]
          exact (h9.take (fun x c => RepC.len t x c) j).drop (fun x c => RepC.len t x c) i
        · exact (h10.take _).drop _
    · cases h
  · cases h
end
end Go.Proofs.YtbbeldmcdjjnbaaDoor
namespace Go.Proofs.YtbbeldmcdjjnbaaDoor
open Go Go.RowKit
set_option linter.unusedSimpArgs false
set_option linter.unusedVariables false

/-- cells laid over cells -/
def over (cs : List Value) (off : Nat) (vs : List Value) : List Value := cs.take off ++ vs ++ cs.drop (off + vs.length)
theorem foldl_over : ∀ (vs : List Value) (k off : Nat) (cs : List Value), off + k + vs.length ≤ cs.length →
    ((vs.zipIdx k).foldl (fun (c : Array Value) (p : Value × Nat) => c.setIfInBounds (off + p.2) p.1) cs.toArray) = (over cs (off + k) vs).toArray
  | [], k, off, cs, _ => by simp [over]
  | v :: vs, k, off, cs, h => by
    simp only [List.length_cons] at h
    simp only [List.zipIdx_cons, List.foldl_cons, List.setIfInBounds_toArray]
    rw [foldl_over vs (k + 1) off (cs.set (off + k) v) (by simp; omega)]
    congr 1
    unfold over
    rw [show off + (k + 1) = off + k + 1 by omega, List.take_set, List.drop_set]
    rw [if_pos (by omega)]
    simp only [List.length_cons]
    rw [show off + k + 1 + vs.length = off + k + (vs.length + 1) by omega]
    congr 1
    rw [show ((List.take (off + k + 1) cs).set (off + k) v) = List.take (off + k) cs ++ [v] by
      rw [List.take_succ_eq_append_getElem (by omega)]
      rw [List.set_append_right _ _ (by simp; omega)]
      simp
      rw [show off + k - min (off + k) cs.length = 0 by omega]
      rfl]
    simp
theorem over_length {cs vs : List Value} {off : Nat} (h : off + vs.length ≤ cs.length) : (over cs off vs).length = cs.length := by
  simp [over]; omega

section
variable {P : Program} {w : World} {O O' : Nat → Prop} {β : Nat → Value} {T : Tbl} {Q : List TypeId} {E : Owns} {F : Frame} {B : Nat} {a : Act}

theorem RepD.cells {t : Ty} {x : t.T} {u : Value} (h : RepD w O t x u) : RepC w O t x u.cells.toList := by
  unfold RepD at h
  split at h
  · obtain ⟨cs, rfl, h⟩ := h
    simpa [Value.cells] using h
  · have h1 := RepC.oneCell _ _ _ h u (by simp)
    have : u.cells = #[u] := by cases u <;> first | rfl | (simp [Value.oneCell'] at h1)
    rw [this]
    exact h
theorem fill_step {place : Nat → Option (Nat × Nat)} {cs : List Value} {i off size : Nat} {u : Value} {rest : List (Nat × Value)} (hp : place i = some (off, size)) (hs : u.cells.toList.length = size) (hl : off + size ≤ cs.length) :
    Instr.fill place cs.toArray ((i, u) :: rest) = Instr.fill place (over cs off u.cells.toList).toArray rest := by
  have hs' : u.cells.size = size := by simpa using hs
  simp only [Instr.fill, hp]
  rw [if_neg (by
    simp only [Bool.or_eq_true, decide_eq_true_eq, not_or, hs', List.size_toArray]
    exact ⟨fun h => h rfl, by omega⟩)]
  congr 1
  have := foldl_over u.cells.toList 0 off cs (by omega)
  rw [Nat.add_zero] at this
  rw [← this, ← Array.foldl_toList]
  congr 1
  simp
/-! ### structs -/
theorem setField_rep : ∀ (n : Nat) (τ : Ty) (x y : τ.T) (v : V) (u : Value) (fs : List Field) (off : Nat) (cs : List Value), setField n τ x v = some y → Lay P τ (.inr (fs, off)) → RepC w O τ x cs → RepV w O β v.t v.x u →
    ∃ f i, fs[n]? = some f ∧ P.info? f.type = some i ∧ f.offset = off + fieldOff n τ ∧ u.cells.toList.length = i.size ∧ fieldOff n τ + i.size ≤ cs.length ∧ RepC w O τ y (over cs (fieldOff n τ) u.cells.toList)
  | 0, .pair a b, x, y, v, u, fs, off, cs, h, hl, hr, hv => by
    simp only [setField] at h
    split at h <;> first | (cases h; done) | skip
    rename_i z h0
    cases h
    obtain ⟨f, r, h1, h2, h3, h4⟩ := hl
    simp only at h1 h2
    subst h1
    obtain ⟨c1, c2, rfl, h5, h6⟩ := hr
    obtain ⟨i, z', hi, hsz, _⟩ := h3.info
    have hc := (coe_rep h3.data h0 hv).cells
    have l1 := RepC.len _ _ _ h5
    have l2 := RepC.len _ _ _ hc
    refine ⟨f, i, rfl, hi, by simp [fieldOff, h2], by rw [l2, hsz], by simp [fieldOff, hsz, l1], u.cells.toList, c2, ?_, hc, h6⟩
    simp only [over, fieldOff, List.take_zero, List.nil_append, Nat.zero_add, l2, ← l1, List.drop_left]
  | n + 1, .pair a b, x, y, v, u, fs, off, cs, h, hl, hr, hv => by
    simp only [setField] at h
    split at h <;> first | (cases h; done) | skip
    rename_i z h0
    cases h
    obtain ⟨f, r, h1, h2, h3, h4⟩ := hl
    simp only at h1 h2
    subst h1
    obtain ⟨c1, c2, rfl, h5, h6⟩ := hr
    obtain ⟨f', i, g1, g2, g3, g4, g5, g6⟩ := setField_rep n b x.2 z v u r _ c2 h0 h4 h6 hv
    have l1 := RepC.len _ _ _ h5
    refine ⟨f', i, by simpa using g1, g2, by rw [g3]; simp [fieldOff, Nat.add_assoc], g4, by simp [fieldOff, l1]; omega, c1, _, ?_, h5, g6⟩
    simp only [over, fieldOff, ← l1, Nat.add_assoc]
    rw [List.take_length_add_append, List.drop_length_add_append]
    simp
  | 0, .unit, _, _, _, _, _, _, _, h, _, _, _ => by cases h
  | _ + 1, .unit, _, _, _, _, _, _, _, h, _, _, _ => by cases h
  | n, .bool, _, _, _, _, _, _, _, h, _, _, _ => by cases n <;> cases h
  | n, .int _, _, _, _, _, _, _, _, h, _, _, _ => by cases n <;> cases h
  | n, .str, _, _, _, _, _, _, _, h, _, _, _ => by cases n <;> cases h
  | n, .arr _ _, _, _, _, _, _, _, _, h, _, _, _ => by cases n <;> cases h
  | n, .slice _, _, _, _, _, _, _, _, h, _, _, _ => by cases n <;> cases h
  | n, .junk, _, _, _, _, _, _, _, h, _, _, _ => by cases n <;> cases h
  | n, .lit, _, _, _, _, _, _, _, h, _, _, _ => by cases n <;> cases h
  | n, .vptr _, _, _, _, _, _, _, _, h, _, _, _ => by cases n <;> cases h
  | n, .cptr _ _ _, _, _, _, _, _, _, _, h, _, _, _ => by cases n <;> cases h
  | n, .optr _, _, _, _, _, _, _, _, h, _, _, _ => by cases n <;> cases h
  | n, .obuf _, _, _, _, _, _, _, _, h, _, _, _ => by cases n <;> cases h
  | n, .tup _ _, _, _, _, _, _, _, _, h, _, _, _ => by cases n <;> cases h
  | n, .cond _, _, _, _, _, _, _, _, h, _, _, _ => by cases n <;> cases h
def RepPs (w : World) (O : Nat → Prop) (β : Nat → Value) : List (Nat × V) → List (Nat × Value) → Prop
  | [], us => us = []
  | (i, v) :: r, us => ∃ u s, us = (i, u) :: s ∧ RepV w O β v.t v.x u ∧ RepPs w O β r s
theorem strips_rep : ∀ {ps : List (Nat × V)} {us : List (Nat × Value)}, RepPs w O β ps us → allP (strips ps).1 → RepPs w O β (strips ps).2 us
  | [], us, h, _ => h
  | (i, v) :: r, us, h, hp => by
    obtain ⟨u, s, rfl, h1, h2⟩ := h
    simp only [strips, allP_append] at hp
    exact ⟨u, s, rfl, strip_rep h1 hp.1, strips_rep h2 hp.2⟩
theorem repPs_map {ps : List (Nat × Operand)} (hops : ∀ p ∈ ps, RepV w O β (evO F p.2).t (evO F p.2).x (a.eval p.2)) : RepPs w O β (ps.map fun p => (p.1, evO F p.2)) (ps.map fun p => (p.1, a.eval p.2)) := by
  induction ps with
  | nil => rfl
  | cons p ps ih => exact ⟨_, _, rfl, hops p (by simp), ih fun q hq => hops q (by simp [hq])⟩
theorem setParts_fill {τ : Ty} {fs : List Field} (hl : Lay P τ (.inr (fs, 0))) {place : Nat → Option (Nat × Nat)} (hpl : ∀ (n : Nat) (f : Field) (i : TypeInfo), fs[n]? = some f → P.info? f.type = some i → place n = some (f.offset, i.size)) :
    ∀ (ps : List (Nat × V)) (us : List (Nat × Value)) (x y : τ.T) (cs : List Value), RepPs w O β ps us → setParts τ x ps = some y → RepC w O τ x cs → ∃ ds : List Value, Instr.fill place cs.toArray us = some ds.toArray ∧ RepC w O τ y ds
  | [], us, x, y, cs, h, hs, hr => by
    cases h
    cases hs
    exact ⟨cs, rfl, hr⟩
  | (i, v) :: r, us, x, y, cs, h, hs, hr => by
    obtain ⟨u, s, rfl, h1, h2⟩ := h
    obtain ⟨z, h3, h4⟩ := Option.bind_eq_some_iff.1 hs
    obtain ⟨f, inf, g1, g2, g3, g4, g5, g6⟩ := setField_rep i τ x z v u fs 0 cs h3 hl hr h1
    rw [Nat.zero_add] at g3
    rw [fill_step (hpl i f inf g1 g2) g4 (by omega), g3]
    exact setParts_fill hl hpl r s z y _ h2 h4 g6
theorem places_ok : ∀ (τ : Ty) (fs : List Field) (off : Nat), Lay P τ (.inr (fs, off)) → ∃ places, fs.mapM (fun f => (P.info? f.type).map fun i => (f.offset, i.size)) = some places ∧
    ∀ (n : Nat) (f : Field) (i : TypeInfo), fs[n]? = some f → P.info? f.type = some i → places[n]? = some (f.offset, i.size) := by
  intro τ
  induction τ with
  | unit =>
    intro fs off h
    have : fs = [] := h
    subst this
    exact ⟨[], rfl, fun n f i h => by simp at h⟩
  | pair a b _ ihb =>
    rintro fs off ⟨f, r, h1, h2, h3, h4⟩
    simp only at h1 h4
    subst h1
    obtain ⟨pl, h5, h6⟩ := ihb r _ h4
    obtain ⟨i, z, hi, _⟩ := h3.info
    refine ⟨(f.offset, i.size) :: pl, by simp [List.mapM_cons, hi, h5], fun n f' i' hn hi' => ?_⟩
    cases n with
    | zero => simp at hn; subst hn; rw [hi] at hi'; cases hi'; rfl
    | succ n => exact h6 n f' i' (by simpa using hn) hi'
  | _ => intro fs off h; exact absurd h (by simp [Lay])
/-! ### arrays -/
theorem setElems_fill {e : Ty} (he : e.data = true) {place : Nat → Option (Nat × Nat)} (hpl : ∀ n, place n = some (n * e.size, e.size)) :
    ∀ (ps : List (Nat × V)) (us : List (Nat × Value)) (x y : List e.T) (cs : List Value), RepPs w O β ps us → setElems e x ps = some y → RepL (RepC w O e) x cs → ∃ ds : List Value, Instr.fill place cs.toArray us = some ds.toArray ∧ RepL (RepC w O e) y ds ∧ y.length = x.length
  | [], us, x, y, cs, h, hs, hr => by
    cases h
    cases hs
    exact ⟨cs, rfl, hr, rfl⟩
  | (i, v) :: r, us, x, y, cs, h, hs, hr => by
    obtain ⟨u, s, rfl, h1, h2⟩ := h
    simp only [setElems] at hs
    split at hs
    · rename_i hb
      have hlt : i < x.length := by simpa using hb
      obtain ⟨z, h3, h4⟩ := Option.bind_eq_some_iff.1 hs
      have hc := (coe_rep he h3 h1).cells
      have hlen := RepC.len _ _ _ hc
      have hl := hr.len (fun x c => RepC.len e x c)
      have hle : i * e.size + e.size ≤ cs.length := by
        have := Nat.mul_le_mul_right e.size (show i + 1 ≤ x.length by omega)
        rw [Nat.add_mul, Nat.one_mul] at this
        omega
      rw [fill_step (hpl i) hlen hle]
      have hset := hr.set (fun x c => RepC.len e x c) hlt hc
      rw [show over cs (i * e.size) u.cells.toList = cs.take (i * e.size) ++ u.cells.toList ++ cs.drop (i * e.size + e.size) by simp only [over, hlen]]
      obtain ⟨ds, g1, g2, g3⟩ := setElems_fill he hpl r s (x.set i z) y _ h2 h4 hset
      exact ⟨ds, g1, g2, by rw [g3]; simp⟩
    · cases hs
theorem zcells_length : ∀ (t : Ty), t.data = true → (zcells t).length = t.size := fun t h => RepC.len (w := default) (O := fun _ => False) _ _ _ (repC_zero _ _ t h)
theorem repL_zeros {e : Ty} (he : e.data = true) (n : Nat) : RepL (RepC w O e) (List.replicate n (zeroX e)) (List.replicate n (zcells e)).flatten := by
  induction n with
  | zero => rfl
  | succ n ih => exact ⟨_, _, rfl, repC_zero _ _ e he, ih⟩
theorem zeros_range (zc : Array Value) (hz : 0 < zc.size) (n : Nat) : (Array.range (n * zc.size)).map (fun i => zc[i % zc.size]!) = (List.replicate n zc.toList).flatten.toArray := by
  apply Array.toList_inj.1
  simp only [Array.toList_map, Array.toList_range]
  induction n with
  | zero => simp
  | succ n ih =>
    rw [Nat.add_mul, Nat.one_mul, List.range_add, List.map_append, ih, List.replicate_succ', List.flatten_append]
    congr 1
    simp only [List.flatten_cons, List.flatten_nil, List.append_nil, List.map_map]
    apply List.ext_getElem
    · simp
    · intro i h1 h2
      simp at h1
      simp [Nat.mul_add_mod_of_lt h1, h1]
theorem buildV_yields (hT : TOk P T Q) {t : TypeId} {ps : List (Nat × V)} {r : List Prop × V} (h : buildV T t ps = some r) (hp : allP r.1) {us : Array (Nat × Value)} (hu : RepPs w O β ps us.toList) : Yields P (Instr.build t us) w O β r.2 := by
  unfold buildV at h
  split at h
  · rename_i a b ht
    split at h <;> first | (cases h; done) | skip
    rename_i x h1
    cases h
    have hl := hT.lay _ _ ht
    have hl' := hl
    obtain ⟨fs, h2, hinf, f, rr, h3, h4, h5, h6⟩ := hl
    obtain ⟨i, z, hi, hs, hz, hzc, _⟩ := hinf
    have hlr : Lay P (.pair a b) (.inr (fs.toList, 0)) := ⟨f, rr, h3, h4, h5, by simpa using h6⟩
    obtain ⟨places, h7, h8⟩ := places_ok _ _ _ hlr
    obtain ⟨ds, g1, g2⟩ := setParts_fill hlr (place := (places.toArray[·]?)) (fun n f i hn hi => by simpa using h8 n f i hn hi) _ us.toList _ x (zcells (.pair a b)) (strips_rep hu hp) h1 (repC_zero _ _ _ hl'.data)
    refine .still (u := .agg ds.toArray) (run_build w t us _ ?_) (repD_repV ((RepD.agg rfl).2 ⟨ds, rfl, g2⟩))
    unfold Program.built
    rw [hi, h2]
    simp only [hz, h7, hzc]
    exact g1
  · rename_i n e ht
    split at h <;> first | (cases h; done) | skip
    rename_i x h1
    cases h
    obtain ⟨te, h2, hinf, hte⟩ := hT.lay _ _ ht
    obtain ⟨i, z, hi, hs, hz, hzc, _⟩ := hinf
    obtain ⟨ie, ze, hie, hse, _⟩ := hte.info
    obtain ⟨ds, g1, g2, g3⟩ := setElems_fill hte.data (place := fun i => some (i * ie.size, ie.size)) (fun n => by rw [hse]) _ us.toList _ x _ (strips_rep hu hp) h1 (repL_zeros hte.data n)
    refine .still (u := .agg ds.toArray) (run_build w t us _ ?_) (repD_repV ((RepD.agg rfl).2 ⟨ds, rfl, by rw [g3]; simp, g2⟩))
    unfold Program.built
    rw [hi, h2]
    simp only [hz, hie, hzc]
    exact g1
  · cases h
theorem buildSliceV_run (hT : TOk P T Q) {t : TypeId} {len : Nat} {ps : List (Nat × V)} {r : List Prop × (t : Ty) × List t.T} (h : buildSliceV T t len ps = some r) (hp : allP r.1) {us : Array (Nat × Value)} (hu : RepPs w O β ps us.toList) :
    ∃ ds te, P.underlying t = some (.slice te) ∧ Lay P r.2.1 (.inl te) ∧ 0 < r.2.1.size ∧ RepL (RepC w O r.2.1) r.2.2 ds ∧ r.2.2.length = len ∧ (Instr.buildSlice t len us).run P w = .ok (.slice (some ⟨w.heap.size, 0, none⟩) len len) (w.alloc (.cells ds.toArray te)) := by
  unfold buildSliceV at h
  split at h
  · rename_i e ht
    split at h
    · rename_i hb
      split at h <;> first | (cases h; done) | skip
      rename_i x h1
      cases h
      simp only [Bool.and_eq_true, Nat.ble_eq] at hb
      have hpos : 0 < e.size := by simpa using hb.2
      obtain ⟨te, h2, _, hte⟩ := hT.lay _ _ ht
      obtain ⟨ie, ze, hie, hse, hze, hzc, _⟩ := hte.info
      have hzs : ze.cells.size = e.size := by rw [hzc]; simp [zcells_length e hte.data]
      obtain ⟨ds, g1, g2, g3⟩ := setElems_fill hte.data (place := fun i => some (i * ie.size, ie.size)) (fun n => by rw [hse]) _ us.toList _ x _ (strips_rep hu hp) h1 (repL_zeros hte.data len)
      refine ⟨ds, te, h2, hte, hpos, g2, by rw [g3]; simp, ?_⟩
      have hz0 : (Array.range (len * ie.size)).map (ze.cells[· % ze.cells.size]!) = (List.replicate len (zcells e)).flatten.toArray := by
        have := zeros_range ze.cells (by omega) len
        rw [hzs] at this
        rw [hse, hzs, this, hzc]
      by_cases h0 : len = 0
      · subst h0
        simp only [List.replicate_zero, List.flatten_nil] at g1
        simp [Instr.buildSlice, run_underlying h2, Go.sizeOf, typeInfo, zeroValue, hie, hze, g1, newRow, show Array.range 0 = #[] from rfl]
      · refine run_buildSlice w t te len us _ ie ze h2 hie hze (by rw [hse]; omega) (by rw [hse]; exact Nat.mul_ne_zero h0 (by omega)) ?_
        rw [hz0]
        exact g1
    · cases h
  · cases h
theorem buildSliceV_yields (hT : TOk P T Q) (hO : ∀ g, O g → g < w.heap.size) {t : TypeId} {len : Nat} (hlen : len ≤ maxLen) {ps : List (Nat × V)} {r : List Prop × (t : Ty) × List t.T} (h : buildSliceV T t len ps = some r) (hp : allP r.1) {us : Array (Nat × Value)}
    (hu : RepPs w O β ps us.toList) : Yields P (Instr.buildSlice t len us) w O β ⟨.slice r.2.1, r.2.2⟩ := by
  obtain ⟨ds, te, _, _, _, h1, h2, h3⟩ := buildSliceV_run hT h hp hu
  refine ⟨_, _, h3, below_alloc _ _, RepV.ofSlice ?_⟩
  have := repS_new hO h1 (cap := len) (by omega) hlen (below_alloc w (.cells ds.toArray te)) (heap_alloc_new w _) (fun j u hj => by simpa using hj)
  rw [h2] at this
  exact this
theorem minV_yields {op : Builtin} (hop : op = .min ∨ op = .max) {vs : List V} {r : List Prop × V} (h : minV op vs = some r) {us : List Value} (hu : ∀ (i : Nat) (v : V), vs[i]? = some v → ∃ u, us[i]? = some u ∧ RepV w O' β v.t v.x u) (hl : us.length = vs.length) (ts : Array TypeId) (ty : TypeId) :
    (op = .min → Yields P (Builtin.min_ ts ty us.toArray) w O β r.2) ∧ (op = .max → Yields P (Builtin.max_ ts ty us.toArray) w O β r.2) := by
  unfold minV at h
  split at h
  · rename_i x y
    obtain ⟨u0, h0, e0⟩ := hu 0 _ rfl
    obtain ⟨u1, h1, e1⟩ := hu 1 _ rfl
    have e0 := RepV.int e0
    have e1 := RepV.int e1
    match us, hl with
    | [a, b], _ =>
      simp at h0 h1
      subst h0; subst h1; subst e0; subst e1
      constructor
      · rintro rfl
        cases h
        refine .still (u := .int .i64 (min (x : Int) y)) ?_ (RepV.ofInt (k := .i64))
        simp only [Builtin.min_, List.foldlM_cons, List.foldlM_nil, Builtin.min2, Sem.run_bind, Sem.run_pure, Result.andThen_ok, encI]
        congr 2
        simp only [Int.min_def]
        split <;> split <;> omega
      · rintro rfl
        cases h
        refine .still (u := .int .i64 (max (x : Int) y)) ?_ (RepV.ofInt (k := .i64))
        simp only [Builtin.max_, List.foldlM_cons, List.foldlM_nil, Builtin.max2, Sem.run_bind, Sem.run_pure, Result.andThen_ok, encI]
        congr 2
        simp only [Int.max_def]
        split <;> split <;> omega
  · cases h
end
end Go.Proofs.YtbbeldmcdjjnbaaDoor
namespace Go.Proofs.YtbbeldmcdjjnbaaDoor
open Go Go.RowKit
set_option linter.unusedSimpArgs false
set_option linter.unusedVariables false

def NYields (P : Program) (s : Sem Next) (w : World) (O : Nat → Prop) (β : Nat → Value) (r : V) : Prop :=
  ∃ u w', s.run P w = .ok (.value u) w' ∧ Below w.heap.size w w' ∧ RepV w' O β r.t r.x u
section
variable {P : Program} {w : World} {O O' : Nat → Prop} {β : Nat → Value} {T : Tbl} {Q : List TypeId} {E : Owns} {F : Frame} {B : Nat} {a : Act}

theorem Yields.next {s : Sem Value} {r : V} (h : Yields P s w O β r) : NYields P (do pure (.value (← s))) w O β r := by
  obtain ⟨u, w', h1, h2, h3⟩ := h
  exact ⟨u, w', by simp [h1], h2, h3⟩
theorem NYields.still {s : Sem Next} {r : V} {u : Value} (h : s.run P w = .ok (.value u) w) (hr : RepV w O β r.t r.x u) : NYields P s w O β r := ⟨u, w, h, Below.refl _ _, hr⟩

theorem map_toArr {α γ : Type} (f : α → γ) (xs : Array α) : (xs.toList.map f).toArray = xs.map f := by rw [← Array.toList_map, Array.toArray_toList]
theorem pOp_yields (hT : TOk P T Q) (hO : ∀ g, O g → g < w.heap.size) (hown : ∀ i o, Owns.get E i = some o → OwnRep w O β B (β i) o) {o : Oper} {r : List Prop × V} (h : pOp T Q E F o.op = some r) (hp : allP r.1)
    (hops : ∀ x ∈ o.op.operands, RepV w O β (evO F x).t (evO F x).x (a.eval x)) : NYields P (execOp a.eval o) w O β r.2 := by
  obtain ⟨dst, op, ty, pos, after, guard⟩ := o
  simp only at h hops
  have minArgs : ∀ {b : Builtin} {args : Array Operand} {ats : Array TypeId}, (∀ x ∈ (Op.call ⟨.builtin b, args, ats⟩).operands, RepV w O β (evO F x).t (evO F x).x (a.eval x)) → allP (args.toList.map fun x => (strip (evO F x)).1).flatten →
      ∀ (i : Nat) (v : V), (args.toList.map fun x => (strip (evO F x)).2)[i]? = some v → ∃ u, (args.toList.map a.eval)[i]? = some u ∧ RepV w O β v.t v.x u := by
    intro b args ats hops hp i v hv
    rw [List.getElem?_map] at hv
    obtain ⟨x, hx, rfl⟩ := Option.map_eq_some_iff.1 hv
    have hm : x ∈ args.toList := List.mem_of_getElem? hx
    refine ⟨a.eval x, by rw [List.getElem?_map, hx]; rfl, strip_rep (hops x (by simp [Op.operands, Call.operands]; simpa using hm)) ?_⟩
    rw [allP_mem] at hp ⊢
    exact fun p hpm => hp p (List.mem_flatten.2 ⟨_, List.mem_map.2 ⟨x, hm, rfl⟩, hpm⟩)
  have one : ∀ (x : Operand), RepV w O β (evO F x).t (evO F x).x (a.eval x) → allP (strip (evO F x)).1 → RepV w O β (strip (evO F x)).2.t (strip (evO F x)).2.x (a.eval x) := fun x hx hp => strip_rep hx hp
  cases op with
  | move x => cases h; exact .still rfl (hops x (by simp [Op.operands]))
  | assign x => cases h; exact .still rfl (hops x (by simp [Op.operands]))
  | pick c x y =>
    have hc := hops c (by simp [Op.operands])
    have hx := hops x (by simp [Op.operands])
    have hy := hops y (by simp [Op.operands])
    obtain ⟨b, h1, h2⟩ := pickV_rep h hp hc hx hy
    refine .still (u := if b then a.eval x else a.eval y) ?_ h2
    unfold execOp
    simp [h1, asBool]
  | binOp op xt x y yt =>
    obtain ⟨q, h1, rfl⟩ := pre_some h
    simp only [allP_append] at hp
    have hx := one x (hops x (by simp [Op.operands])) hp.1.1
    have hy := one y (hops y (by simp [Op.operands])) hp.1.2
    exact (binV_yields hT h1 hp.2 hx hy (x := x) (y := y)).next
  | unOp op t x =>
    obtain ⟨q, h1, rfl⟩ := pre_some h
    simp only [allP_append] at hp
    exact (unV_yields h1 hp.2 (one x (hops x (by simp [Op.operands])) hp.1)).next
  | convert s d x =>
    obtain ⟨q, h1, rfl⟩ := pre_some h
    simp only [allP_append] at hp
    exact (cvV_yields hT hO h1 hp.2 (dat_rep hown (one x (hops x (by simp [Op.operands])) hp.1))).next
  | index xt x i =>
    obtain ⟨q, h1, rfl⟩ := pre_some h
    simp only [allP_append] at hp
    exact (indexV_yields hT h1 hp.2 (one x (hops x (by simp [Op.operands])) hp.1.1) (one i (hops i (by simp [Op.operands])) hp.1.2)).next
  | indexAddr xt x i =>
    obtain ⟨q, h1, rfl⟩ := pre_some h
    simp only [allP_append] at hp
    exact (indexAddrV_yields hT hown h1 hp.2 (one x (hops x (by simp [Op.operands])) hp.1.1) (one i (hops i (by simp [Op.operands])) hp.1.2)).next
  | load t x =>
    obtain ⟨q, h1, rfl⟩ := pre_some h
    simp only [allP_append] at hp
    exact (loadV_yields hT hown h1 hp.2 (one x (hops x (by simp [Op.operands])) hp.1)).next
  | field xt x n =>
    obtain ⟨q, h1, rfl⟩ := pre_some h
    simp only [allP_append] at hp
    exact (fieldsV_yields hT h1 (one x (hops x (by simp [Op.operands])) hp.1)).next
  | fieldAddr s x n =>
    obtain ⟨q, h1, rfl⟩ := pre_some h
    simp only [allP_append] at hp
    exact (fieldAddrV_yields hT h1 (one x (hops x (by simp [Op.operands])) hp.1)).next
  | extract x n =>
    simp only [pOp] at h
    obtain ⟨v, h1, rfl⟩ := withP_some h
    exact (extract_yields h1 (one x (hops x (by simp [Op.operands])) hp)).next
  | slice xt x lo hi mx =>
    cases mx with
    | some m => cases h
    | none =>
      obtain ⟨q, h1, rfl⟩ := pre_some h
      simp only [allP_append] at hp
      refine (sliceV_yields hT h1 hp.2 (one x (hops x (by simp [Op.operands])) hp.1.1) (ul := lo.map a.eval) (uh := hi.map a.eval) ?_ (by intro h; cases lo <;> simp_all) ?_ (by intro h; cases hi <;> simp_all)).next
      · intro v hv
        obtain ⟨y, rfl, rfl⟩ := Option.map_eq_some_iff.1 hv
        exact ⟨_, rfl, one y (hops y (by simp [Op.operands])) hp.1.2.1⟩
      · intro v hv
        obtain ⟨y, rfl, rfl⟩ := Option.map_eq_some_iff.1 hv
        exact ⟨_, rfl, one y (hops y (by simp [Op.operands])) hp.1.2.2⟩
  | build t parts =>
    have hps : RepPs w O β (parts.toList.map fun p => (p.1, evO F p.2)) (parts.map fun p => (p.1, a.eval p.2)).toList := by
      rw [Array.toList_map]
      exact repPs_map fun p hpm => hops p.2 (by simp only [Op.operands]; simp; exact ⟨p.1, by simpa using hpm⟩)
    exact (buildV_yields hT h hp hps).next
  | buildSlice t len parts =>
    simp only [pOp] at h
    split at h <;> first | (cases h; done) | skip
    rename_i pq eq xq h1
    cases h
    have hps : RepPs w O β (parts.toList.map fun p => (p.1, evO F p.2)) (parts.map fun p => (p.1, a.eval p.2)).toList := by
      rw [Array.toList_map]
      exact repPs_map fun p hpm => hops p.2 (by simp only [Op.operands]; simp; exact ⟨p.1, by simpa using hpm⟩)
    have hlen : len ≤ maxLen := by
      unfold buildSliceV at h1
      split at h1
      · split at h1
        · rename_i e _ hb
          simp only [Bool.and_eq_true, Nat.ble_eq] at hb
          have hpos : 0 < e.size := by simpa using hb.2
          have := Nat.le_mul_of_pos_right len hpos
          simp only [maxLen]
          omega
        · cases h1
      · cases h1
    exact (buildSliceV_yields hT hO hlen h1 hp hps).next
  | makeFunc fn first caps =>
    cases fn with
    | func f =>
      simp only [pOp] at h
      split at h <;> first | (cases h; done) | skip
      rename_i t x hf hc
      cases h
      have ef : first = #[] := by rw [← Array.toList_inj, hf]
      subst ef
      refine .still (u := .func (.func f) #[] (caps.toList.map a.eval).toArray) ?_ ⟨_, rfl, ?_⟩
      · unfold execOp
        rw [map_toArr]
        simp [Instr.makeFunc]
      · have key : ∀ (l : List Operand) (y : (t : Ty) × t.T), (∀ z ∈ l, RepV w O β (evO F z).t (evO F z).x (a.eval z)) → cloV (l.map (evO F)) = some y → RepCap w O y.1 y.2 (l.map a.eval) := by
          intro l
          induction l with
          | nil => intro y _ hy; cases hy; exact rfl
          | cons z l ih =>
            intro y hz hy
            simp only [List.map_cons] at hy
            unfold cloV at hy
            split at hy
            · rename_i he; cases he
            · rename_i q a' x' r' he
              split at hy <;> first | (cases hy; done) | skip
              rename_i t y' hr
              cases hy
              obtain ⟨e1, e2⟩ := List.cons.inj he
              have h0 := hz z (by simp)
              rw [e1] at h0
              rw [← e2] at hr
              exact ⟨_, _, rfl, h0, ih _ (fun z hz' => hz z (by simp [hz'])) hr⟩
            · cases hy
        exact key caps.toList ⟨t, x⟩ (fun z hz => hops z (by simp only [Op.operands]; simp; simpa using hz)) hc
    | _ => cases h
  | nilCheck x =>
    have hx := hops x (by simp [Op.operands])
    simp only [pOp] at h
    split at h
    · rename_i p t y he
      cases h
      have h1 := one x hx (by rw [he]; exact hp)
      rw [he] at h1
      have h1' := h1
      obtain ⟨g, off, cs, h2, _⟩ := h1
      refine .still (u := a.eval x) ?_ h1'
      unfold execOp
      simp [h2]
    · rename_i p t y he
      cases h
      have h1 := one x hx (by rw [he]; exact hp)
      rw [he] at h1
      have h1' := h1
      obtain ⟨g, h0, h2⟩ := h1
      refine .still (u := a.eval x) ?_ h1'
      unfold execOp
      simp [h2]
    · rename_i p y he
      cases h
      have h1 := one x hx (by rw [he]; exact hp)
      rw [he] at h1
      have h1' := h1
      obtain ⟨g, h0, h2⟩ := h1
      refine .still (u := a.eval x) ?_ h1'
      unfold execOp
      simp [h2]
    · cases h
  | call c =>
    obtain ⟨callee, args, ats⟩ := c
    simp only [pOp] at h
    split at h
    · split at h
      · rename_i x t ha ht
        obtain ⟨q, h1, rfl⟩ := pre_some h
        simp only [allP_append] at hp
        have ea : args = #[x] := by rw [← Array.toList_inj, ha]
        have et : ats = #[t] := by rw [← Array.toList_inj, ht]
        subst ea; subst et
        have hx := one x (hops x (by simp [Op.operands, Call.operands])) hp.1
        have e : (execOp a.eval ⟨dst, .call ⟨.builtin .len, #[x], #[t]⟩, ty, pos, after, guard⟩).run P w = ((do pure (Next.value (← Builtin.len_ #[t] ty #[a.eval x])) : Sem Next)).run P w := by
          unfold execOp
          simp [resolve, invoke, builtin]
        have := (lenV_yields (P := P) (O := O) hT h1 (dat_rep hown hx) ty).next
        unfold NYields at *
        rw [e]
        exact this
      · cases h
    · obtain ⟨q, h1, rfl⟩ := pre_some h
      simp only [allP_append] at hp
      have e : (execOp a.eval ⟨dst, .call ⟨.builtin .min, args, ats⟩, ty, pos, after, guard⟩).run P w = ((do pure (Next.value (← Builtin.min_ ats ty (args.toList.map a.eval).toArray)) : Sem Next)).run P w := by
        unfold execOp
        rw [map_toArr]
        simp [resolve, invoke, builtin]
      have := (minV_yields (P := P) (O := O) (O' := O) (w := w) (β := β) (Or.inl rfl) h1 (us := args.toList.map a.eval) (minArgs hops hp.1) (by simp) ats ty).1 rfl |>.next
      unfold NYields at *
      rw [e]
      exact this
    · obtain ⟨q, h1, rfl⟩ := pre_some h
      simp only [allP_append] at hp
      have e : (execOp a.eval ⟨dst, .call ⟨.builtin .max, args, ats⟩, ty, pos, after, guard⟩).run P w = ((do pure (Next.value (← Builtin.max_ ats ty (args.toList.map a.eval).toArray)) : Sem Next)).run P w := by
        unfold execOp
        rw [map_toArr]
        simp [resolve, invoke, builtin]
      have := (minV_yields (P := P) (O := O) (O' := O) (w := w) (β := β) (Or.inr rfl) h1 (us := args.toList.map a.eval) (minArgs hops hp.1) (by simp) ats ty).2 rfl |>.next
      unfold NYields at *
      rw [e]
      exact this
    · cases h
  | _ => cases h
end
end Go.Proofs.YtbbeldmcdjjnbaaDoor
