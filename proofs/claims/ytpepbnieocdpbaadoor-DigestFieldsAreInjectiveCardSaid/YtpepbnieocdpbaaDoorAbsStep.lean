/-
  One operation, a list of operations on a plain state: what it leaves, under which conditions; that the program does so. No program is read here.
-/
import Derived.Test.YtpepbnieocdpbaaDoorAbsCall
namespace Go.Proofs.YtpepbnieocdpbaaDoor
open Go Go.RowKit
set_option linter.unusedSimpArgs false
set_option linter.unusedVariables false

abbrev UTbl := List (TypeId × TypeId)
def uget : List (TypeId × TypeId) → TypeId → Option TypeId
  | [], _ => none
  | (s, e) :: r, t => bif Nat.beq s t then some e else uget r t
def UOk (P : Program) (U : UTbl) : Prop := ∀ t e, uget U t = some e → P.underlying t = some (.slice e)
/-- all that is known of a program: types, types that may be compared, contracts, elements of slice types -/
structure Kn where
  T : Tbl
  Q : List TypeId
  U : UTbl
  C : Ctrs
structure KnOk (P : Program) (G : World → Prop) (K : Kn) : Prop where
  t : TOk P K.T K.Q
  u : UOk P K.U
  c : CsOk P G K.C
  st : ∀ w w', G w → Below w.heap.size w w' → G w'

def frz (σ : AS) (x : Operand) : AS :=
  match evO σ.F x with
  | ⟨.obuf _, i⟩ => match Owns.get σ.E i with
    | some (.buf _ t xs) => { F := Frame.thaw i t xs σ.F, E := (i, none) :: σ.E, nx := σ.nx }
    | _ => σ
  | _ => σ
def frzs : AS → List Operand → AS
  | σ, [] => σ
  | σ, x :: r => frzs (frz σ x) r
def needF (C : Ctrs) : Op → List Operand
  | .box _ x => [x]
  | .store _ _ x => [x]
  | .build _ ps => ps.toList.map (·.2)
  | .buildSlice _ _ ps => ps.toList.map (·.2)
  | .slice _ x _ _ _ => [x]
  | .call ⟨.value (.func f), args, _⟩ => match cget C f with
    | some c => bif c.fl then [] else args.toList
    | none => []
  | _ => []
def setBuf (te : TypeId) (s : Ty) (xs : List s.T) {t : Ty} : (r : Ty) → Path r t → t.T → Option (PLift (.slice s = r)) → Option (List Prop × OObj)
  | _, p, y, some ⟨rfl⟩ => match p.setO xs y with
    | some z => some (p.vcs xs, .buf te s z)
    | none => none
  | _, _, _, none => none
/-- a place in something of the call's own is written -/
def OObj.set {r t : Ty} (o : OObj) (p : Path r t) (y : t.T) : Option (List Prop × OObj) :=
  match o with
  | .box s x => if p.isElm = false then (match castO s r x (tyEq? s r) with | some z => (match p.setO z y with | some z' => some (p.vcs z, .box r z') | none => none) | none => none) else none
  | .buf te s xs => if p.isElm = true then setBuf te s xs r p y (tyEq? (.slice s) r) else none
def AS.own (σ : AS) (d : Nat) (t : Ty) (o : OObj) : AS := { F := (d, ⟨.obuf t, σ.nx⟩) :: σ.F, E := (σ.nx, some o) :: σ.E, nx := σ.nx + 1 }
def AS.var (σ : AS) (d : Nat) (t : Ty) (x : t.T) : AS := { F := (d, ⟨.optr t, ⟨σ.nx, t, .here⟩⟩) :: σ.F, E := (σ.nx, some (.box t x)) :: σ.E, nx := σ.nx + 1 }
def AS.put (σ : AS) (d : Nat) (v : V) : AS := { σ with F := (d, v) :: σ.F }
def isNil : V → Bool
  | ⟨.lit, .slice none 0 0⟩ => true
  | _ => false
/-- types that may be handles -/
def Ty.hand : Ty → Bool
  | .optr _ | .obuf _ => true
  | .cond t => t.hand
  | _ => false
/-- only these hand a handle on -/
def handsOn : Op → Bool
  | .move _ | .assign _ | .nilCheck _ | .indexAddr _ _ _ | .fieldAddr _ _ _ => true
  | _ => false
/-- append -/
def appV (K : Kn) (F : Frame) (E : Owns) (nx : Nat) (d : Nat) (t : TypeId) (s x : V) : Option (List Prop × AS) :=
  match uget K.U t with
  | some te =>
    match s with
    | ⟨.obuf _, i⟩ => match Owns.get E i with
      | some (.buf te' τ xs) =>
        if tis K.T t (.slice τ) && Nat.beq te te' && Nat.ble (24 * τ.size) 100000 then (match coe (.slice τ) (dat E x) with
          | some ys => some ([List.length xs + List.length ys ≤ 1000000000], ⟨(d, ⟨.obuf τ, i⟩) :: Frame.kill i F, (i, some (.buf te τ (xs ++ ys))) :: E, nx⟩)
          | none => none) else none
      | _ => none
    | s => if isNil s then (match tget K.T t with
      | some (.slice τ) => if Nat.ble (24 * τ.size) 100000 && Nat.blt 0 τ.size then (match coe (.slice τ) (dat E x) with
        | some ys => some ([List.length ys ≤ 1000000000], ⟨(d, ⟨.obuf τ, nx⟩) :: F, (nx, some (.buf te τ ys)) :: E, nx + 1⟩)
        | none => none) else none
      | _ => none) else none
  | none => none
def preS : List Prop → Option (List Prop × AS) → Option (List Prop × AS)
  | [], o => o
  | a :: A, o => match preS A o with
    | some (p, σ) => some (a :: p, σ)
    | none => none
noncomputable def doStep (K : Kn) (n : Nat) (dst : Option Nat) (op : Op) (σ : AS) : Option (List Prop × AS) :=
  match σ with
  | ⟨F, E, nx⟩ => match dst with
    | none => match op with
      | .store t p x => match (strip (evO F p)).2 with
        | ⟨.optr τ, ⟨i, r, q⟩⟩ => match Owns.get E i with
          | some o => if tis K.T t τ then (match coe τ (strip (evO F x)).2 with
            | some y => (match OObj.set (r := r) o q y with
              | some (vc, o') => some ((strip (evO F p)).1 ++ (strip (evO F x)).1 ++ vc, ⟨F, (i, some o') :: E, nx⟩)
              | none => none)
            | none => none) else none
          | none => none
        | _ => none
      | _ => none
    | some d => if Nat.blt d n then (match op with
      | .alloc t => match tget K.T t with
        | some τ => some ([], ⟨(d, ⟨.optr τ, ⟨nx, τ, .here⟩⟩) :: F, (nx, some (.box τ (zeroX τ))) :: E, nx + 1⟩)
        | none => none
      | .box t x => match tget K.T t with
        | some τ => (match coe τ (strip (evO F x)).2 with
          | some y => some ((strip (evO F x)).1, ⟨(d, ⟨.optr τ, ⟨nx, τ, .here⟩⟩) :: F, (nx, some (.box τ y)) :: E, nx + 1⟩)
          | none => none)
        | none => none
      | .buildSlice t len parts => match uget K.U t, buildSliceV K.T t len (parts.toList.map fun p => (p.1, evO F p.2)) with
        | some te, some (p, ⟨e, xs⟩) => some (p, ⟨(d, ⟨.obuf e, nx⟩) :: F, (nx, some (.buf te e xs)) :: E, nx + 1⟩)
        | _, _ => none
      | .makeSlice t l c => match uget K.U t, tget K.T t, (strip (evO F l)).2, (strip (evO F c)).2 with
        | some te, some (.slice τ), ⟨.int .i64, x⟩, ⟨.int .i64, y⟩ => if Nat.ble (24 * τ.size) 100000 && Nat.blt 0 τ.size then some ((strip (evO F l)).1 ++ (strip (evO F c)).1 ++ [0 ≤ (x : Int), (x : Int) ≤ y, (y : Int) ≤ 1000000000], ⟨(d, ⟨.obuf τ, nx⟩) :: F, (nx, some (.buf te τ (List.replicate (x : Int).toNat (zeroX τ)))) :: E, nx + 1⟩) else none
        | _, _, _, _ => none
      | .call ⟨.builtin .append, args, ts⟩ => match args.toList, ts.toList with
        | [s, x], [t, u] => if Nat.beq t u then preS ((strip (evO F s)).1 ++ (strip (evO F x)).1) (appV K F E nx d t (strip (evO F s)).2 (strip (evO F x)).2) else none
        | _, _ => none
      | .call ⟨.value (.func f), args, ts⟩ => match callV K.C E f (args.toList.map (evO F)) with
        | some (p, ⟨c, xs⟩) => match c.own with
          | none => if c.res.hand then none else some (p, ⟨(d, ⟨c.res, c.out xs⟩) :: F, E, nx⟩)
          | some te => match c.res, c.out xs with
            | .slice τ, ys => some (p, ⟨(d, ⟨.obuf τ, nx⟩) :: F, (nx, some (.buf te τ ys)) :: E, nx + 1⟩)
            | _, _ => none
        | none => none
      | op => match pOp K.T K.Q E F op with
        | some (p, ⟨t, x⟩) => if !t.hand || handsOn op then some (p, ⟨(d, ⟨t, x⟩) :: F, E, nx⟩) else none
        | none => none) else none
def condV (c : Bool) : V → V
  | ⟨.cond t, x⟩ => ⟨.cond t, (c && x.1, x.2)⟩
  | ⟨t, x⟩ => ⟨.cond t, (c, x)⟩
def gcond : V → Bool → Option Bool
  | ⟨.bool, b⟩, true => some b
  | ⟨.bool, b⟩, false => some (!b)
  | ⟨.cond .bool, (c, b)⟩, true => some (c && b)
  | ⟨.cond .bool, (c, b)⟩, false => some (c && !b)
  | _, _ => none
def impV (c : Bool) : List Prop → V → Res
  | [], v => some ([], condV c v)
  | p :: r, v => some ([c = true → allP (p :: r)], condV c v)
theorem impV_some {c : Bool} {l : List Prop} {v : V} {r : List Prop × V} (h : impV c l v = some r) : (impP c l, condV c v) = r := by
  cases l <;> (cases h; rfl)
/-- an operation that reads, computes, calls, perhaps under a guard -/
noncomputable def gOp (K : Kn) (n : Nat) (ops : Array Oper) (E : Owns) (F : Frame) (o : Oper) : Res :=
  match o.guard with
  | none => match cOp K.T K.Q K.C E F o.op with
    | some (p, ⟨t, x⟩) => if !t.hand || handsOn o.op then some (p, ⟨t, x⟩) else none
    | none => none
  | some (j, want) =>
    match (ops[j]?).bind (·.dst) with
    | some dj => if Nat.blt dj n then (match gcond (Frame.get F dj) want, cOp K.T K.Q K.C E F o.op with
      | some c, some (p, v) => if v.t.hand then none else impV c p v
      | _, _ => none) else none
    | none => none
/-- a literal of bytes, converted to its own type: it is given away -/
def markS (K : Kn) (n : Nat) (o : Oper) : AS → Option (List Prop × AS)
  | ⟨F, E, nx⟩ => match o.op, o.dst with
    | .convert s t x, some d => match (strip (evO F x)).2 with
      | ⟨.obuf _, i⟩ => match Owns.get E i with
        | some (.buf _ (.int .u8) xs) => if Nat.beq s t && tis K.T s (.slice (.int .u8)) && Nat.blt d n then some ((strip (evO F x)).1 ++ [0 < List.length xs], ⟨(d, ⟨.slice (.int .u8), xs⟩) :: Frame.thaw i (.int .u8) xs F, (i, none) :: E, nx⟩) else none
        | _ => none
      | _ => none
    | _, _ => none
noncomputable def aStep (K : Kn) (n : Nat) (ops : Array Oper) (o : Oper) (σ : AS) : Option (List Prop × AS) :=
  match o.guard with
  | none => match markS K n o σ with
    | some r => some r
    | none => doStep K n o.dst o.op (frzs σ (needF K.C o.op))
  | some _ =>
    match o.dst, σ with
    | some d, ⟨F, E, nx⟩ => if Nat.blt d n then (match gOp K n ops E F o with
      | some (p, ⟨t, x⟩) => some (p, ⟨(d, ⟨t, x⟩) :: F, E, nx⟩)
      | none => none) else none
    | none, _ => none
noncomputable def aSeq (K : Kn) (n : Nat) (ops : Array Oper) : List Oper → AS → Option (List Prop × AS)
  | [], σ => some ([], σ)
  | o :: r, σ => match aStep K n ops o σ with
    | some (p, σ') => preS p (aSeq K n ops r σ')
    | none => none
/-- the head of a region that draws its order: each by itself -/
noncomputable def aHead (K : Kn) (n : Nat) (ops : Array Oper) : List Oper → AS → Option (List Prop × AS)
  | [], σ => some ([], σ)
  | o :: r, ⟨F, E, nx⟩ => match o.dst with
    | some d => if Nat.blt d n then (match gOp K n ops E F o with
      | some (p, ⟨t, x⟩) => preS p (aHead K n ops r ⟨(d, ⟨t, x⟩) :: F, E, nx⟩)
      | none => none) else none
    | none => none
/-- the operands and the guard's slot of an operation -/
def seesT (ops : Array Oper) (o : Oper) : List Nat :=
  (o.op.operands.toList.filterMap fun x => match x with | .tmp t => some t | _ => none) ++ (match o.guard with | some (j, _) => ((ops[j]?).bind (·.dst)).toList | none => [])
/-- in the head each operation sees slots of the head only behind those that write them; each writes a slot of its own -/
def flowB (ops : Array Oper) (m : Nat) : Bool :=
  (List.range m).all fun j => match ops[j]? with
    | some oj => (List.range m).all fun i => match ops[i]? with
      | some oi => (Nat.beq i j || !(oi.dst == oj.dst)) && ((seesT ops oj).all fun t => !(oi.dst == some t) || (Nat.blt i j && oj.after.any fun e => Nat.beq e.on i && Region.binds .any e))
      | none => false
    | none => false
def backB (ops : Array Oper) : Bool := (List.range ops.size).all fun i => match ops[i]? with | some o => o.after.all fun e => Nat.blt e.on i || !Region.binds .any e | none => false
def headB (ops : Array Oper) (m : Nat) : Bool :=
  Nat.ble m ops.size && flowB ops m && backB ops && (Nat.beq m ops.size || (Region.sinkB .any ops m && Region.chainB .any ops m)) &&
    Region.seqB .any ops (ops.size - m) m (List.replicate m true ++ List.replicate (ops.size - m) false).toArray
end Go.Proofs.YtpepbnieocdpbaaDoor
