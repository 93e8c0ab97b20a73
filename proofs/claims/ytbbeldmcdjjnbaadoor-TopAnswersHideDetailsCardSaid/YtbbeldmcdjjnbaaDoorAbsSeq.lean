/-
  One operation, a list of operations on a plain state: what it leaves, under which conditions; that the program does so. No program is read here.
  A list of operations on a plain state: the program does so. No program is read here.
  A list of operations on a plain state: the program does so. No program is read here.
  A literal of bytes is converted to its own type: its block is marked, its cells stay. No program is read here.
  Regions on plain states, drawn or not. No program is read here.
-/
import Derived.Test.YtbbeldmcdjjnbaaDoorAbsCall
import Derived.Laws.MakeOwn
namespace Go.Proofs.YtbbeldmcdjjnbaaDoor
open Go Go.RowKit
set_option linter.unusedSimpArgs false
set_option linter.unusedVariables false

abbrev UTbl := List (TypeId × TypeId)
def uget : List (TypeId × TypeId) → TypeId → Option TypeId
  | [], _ => none
  | (s, e) :: r, t => bif Nat.beq s t then some e else uget r t
def UOk (P : Program) (U : UTbl) : Prop := ∀ t e, uget U t = some e → P.underlying t = some (.slice e)
/-! a function that writes a variable which it was handed by its address -/
structure RCtr where
  self : Ty
  args : List Ty
  inv : World → Nat → Prop
  pre : self.T → Args args → List Prop
  res : Ty
  out : self.T → Args args → res.T
  post : self.T → Args args → self.T
def RCtrOk (P : Program) (G : World → Prop) (f : FuncId) (c : RCtr) : Prop :=
  (∀ (as : Array Value) (w : World), (callFunc f as).run P w = .ok (.enter f as) w) ∧
  ∀ (w : World) (O : Nat → Prop) (g : Nat) (cs : List Value) (ty : TypeId) (x : c.self.T) (xs : Args c.args) (vs : List Value), (∀ h, O h → h < w.heap.size ∧ h ≠ g) → w.heap[g]? = some (.cells cs.toArray ty (0, 0)) →
    RepC w (fun h => O h ∨ h = g) c.self x cs → RepA w (fun h => O h ∨ h = g) c.args xs vs → allP (c.pre x xs) → c.inv w g → G w →
    Calls P f (Value.pointer (some ⟨g, 0, none⟩) :: vs).toArray w fun e w' => ∃ v cs' ty', e = .returned v ∧ Kept (fun h => h = g) w w' ∧ w'.heap[g]? = some (.cells cs'.toArray ty' (0, 0)) ∧
      RepC w' (fun h => O h ∨ h = g) c.self (c.post x xs) cs' ∧ (c.res = .unit ∨ ResRel w' O w.heap.size none c.res (c.out x xs) v)
def rget : List (FuncId × RCtr) → FuncId → Option RCtr
  | [], _ => none
  | (g, c) :: r, f => bif Nat.beq g f then some c else rget r f
def RsOk (P : Program) (G : World → Prop) (C : List (FuncId × RCtr)) : Prop := ∀ f c, rget C f = some c → RCtrOk P G f c ∧ ∀ w g, c.inv w g
theorem RsOk.nil {P : Program} {G : World → Prop} : RsOk P G [] := fun _ _ h => by cases h
theorem RsOk.cons {P : Program} {G : World → Prop} {f : FuncId} {c : RCtr} {C : List (FuncId × RCtr)} (h : RCtrOk P G f c) (hi : ∀ w g, c.inv w g) (hC : RsOk P G C) : RsOk P G ((f, c) :: C) := by
  intro g d hg
  simp only [rget, cond_eq_ite, Nat.beq_eq] at hg
  split at hg
  · rename_i e; cases hg; exact e ▸ ⟨h, hi⟩
  · exact hC g d hg
/-- all that is known of a program: types, types that may be compared, contracts, elements of slice types -/
structure Kn where
  T : Tbl
  Q : List TypeId
  U : UTbl
  C : Ctrs
  cut : Bool := false
  H : List TypeId := []
  R : List (FuncId × RCtr) := []
structure KnOk (P : Program) (G : World → Prop) (K : Kn) : Prop where
  t : TOk P K.T K.Q
  u : UOk P K.U
  c : CsOk P G K.C
  st : ∀ w w', G w → Below w.heap.size w w' → G w'
  r : RsOk P G K.R

def frz (σ : AS) (x : Operand) : AS :=
  match evO σ.F x with
  | ⟨.obuf _, i⟩ => match Owns.get σ.E i with
    | some (.buf _ t xs) => { F := Frame.thaw i t xs σ.F, E := (i, none) :: σ.E, nx := σ.nx }
    | _ => σ
  | _ => σ
def frzs : AS → List Operand → AS
  | σ, [] => σ
  | σ, x :: r => frzs (frz σ x) r
def needF (F : Frame) (C : Ctrs) : Op → List Operand
  | .box _ x => [x]
  | .store _ _ x => [x]
  | .build _ ps => ps.toList.map (·.2)
  | .buildSlice _ _ ps => ps.toList.map (·.2)
  | .slice _ x _ _ _ => [x]
  | .call ⟨.value x, args, _⟩ => match calleeV F x with
    | some (f, _) => match cget C f with
      | some c => bif c.fl then [] else args.toList
      | none => []
    | none => []
  | _ => []
def setBuf (te : TypeId) (s : Ty) (xs : List s.T) {t : Ty} : (r : Ty) → Path r t → t.T → Option (PLift (.slice s = r)) → Option (List Prop × OObj)
  | _, p, y, some ⟨rfl⟩ => match p.setO xs y with
    | some z => some (p.vcs xs, .buf te s z)
    | none => none
  | _, _, _, none => none
/-- a place in something of the call's own is written -/
def OObj.set {r t : Ty} (o : OObj) (p : Path r t) (y : t.T) : Option (List Prop × OObj) :=
  match o with
  | .box s x => if p.isElm = false then (match castO s r x (tyEq? s r) with | some z => (match p.setO z y with | some z' => some (p.vcs z, .box r z') | none => none) | none => none) else none
  | .buf te s xs => if p.isElm = true then setBuf te s xs r p y (tyEq? (.slice s) r) else none
  | .hbox _ => none
def AS.own (σ : AS) (d : Nat) (t : Ty) (o : OObj) : AS := { F := (d, ⟨.obuf t, σ.nx⟩) :: σ.F, E := (σ.nx, some o) :: σ.E, nx := σ.nx + 1 }
def AS.var (σ : AS) (d : Nat) (t : Ty) (x : t.T) : AS := { F := (d, ⟨.optr t, ⟨σ.nx, t, .here⟩⟩) :: σ.F, E := (σ.nx, some (.box t x)) :: σ.E, nx := σ.nx + 1 }
def AS.put (σ : AS) (d : Nat) (v : V) : AS := { σ with F := (d, v) :: σ.F }
def isNil : V → Bool
  | ⟨.lit, .slice none 0 0⟩ => true
  | _ => false
/-- types that may be handles -/
def Ty.hand : Ty → Bool
  | .optr _ | .obuf _ => true
  | .cond t => t.hand
  | .hptr => true
  | .hcons _ _ => true
  | _ => false
/-- only these hand a handle on -/
def handsOn : Op → Bool
  | .move _ | .assign _ | .nilCheck _ | .indexAddr _ _ _ | .fieldAddr _ _ _ | .load _ _ => true
  | _ => false
/-- append -/
def appV (K : Kn) (F : Frame) (E : Owns) (nx : Nat) (d : Nat) (t : TypeId) (s x : V) : Option (List Prop × AS) :=
  match uget K.U t with
  | some te =>
    match s with
    | ⟨.obuf _, i⟩ => match Owns.get E i with
      | some (.buf te' τ xs) =>
        if tis K.T t (.slice τ) && Nat.beq te te' && Nat.ble (24 * τ.size) 100000 then (match coe (.slice τ) (dat E x) with
          | some ys => some ([List.length xs + List.length ys ≤ 1000000000], ⟨(d, ⟨.obuf τ, i⟩) :: Frame.kill i F, (i, some (.buf te τ (xs ++ ys))) :: Owns.kill i E, nx⟩)
          | none => none) else none
      | _ => none
    | s => if isNil s then (match tget K.T t with
      | some (.slice τ) => if Nat.ble (24 * τ.size) 100000 && Nat.blt 0 τ.size then (match coe (.slice τ) (dat E x) with
        | some ys => some ([List.length ys ≤ 1000000000], ⟨(d, ⟨.obuf τ, nx⟩) :: F, (nx, some (.buf te τ ys)) :: E, nx + 1⟩)
        | none => none) else none
      | _ => none) else none
  | none => none
def preS : List Prop → Option (List Prop × AS) → Option (List Prop × AS)
  | [], o => o
  | a :: A, o => match preS A o with
    | some (p, σ) => some (a :: p, σ)
    | none => none
noncomputable def doStep (K : Kn) (n : Nat) (dst : Option Nat) (op : Op) (σ : AS) : Option (List Prop × AS) :=
  match σ with
  | ⟨F, E, nx⟩ => match dst with
    | none => match op with
      | .store t p x => match (strip (evO F p)).2 with
        | ⟨.optr τ, ⟨i, r, q⟩⟩ => match Owns.get E i with
          | some o => if tis K.T t τ then (match coe τ (strip (evO F x)).2 with
            | some y => (match OObj.set (r := r) o q y with
              | some (vc, o') => some ((strip (evO F p)).1 ++ (strip (evO F x)).1 ++ vc, ⟨F, (i, some o') :: E, nx⟩)
              | none => none)
            | none => none) else none
          | none => none
        | _ => none
      | _ => none
    | some d => if Nat.blt d n then (match op with
      | .alloc t => match tget K.T t with
        | some τ => some ([], ⟨(d, ⟨.optr τ, ⟨nx, τ, .here⟩⟩) :: F, (nx, some (.box τ (zeroX τ))) :: E, nx + 1⟩)
        | none => none
      | .box t x => match tget K.T t with
        | some τ => (match coe τ (strip (evO F x)).2 with
          | some y => some ((strip (evO F x)).1, ⟨(d, ⟨.optr τ, ⟨nx, τ, .here⟩⟩) :: F, (nx, some (.box τ y)) :: E, nx + 1⟩)
          | none => none)
        | none => none
      | .buildSlice t len parts => match uget K.U t, buildSliceV K.T t len (parts.toList.map fun p => (p.1, evO F p.2)) with
        | some te, some (p, ⟨e, xs⟩) => some (p, ⟨(d, ⟨.obuf e, nx⟩) :: F, (nx, some (.buf te e xs)) :: E, nx + 1⟩)
        | _, _ => none
      | .makeSlice t l c => match uget K.U t, tget K.T t, (strip (evO F l)).2, (strip (evO F c)).2 with
        | some te, some (.slice τ), ⟨.int .i64, x⟩, ⟨.int .i64, y⟩ => if Nat.ble (24 * τ.size) 100000 && Nat.blt 0 τ.size then some ((strip (evO F l)).1 ++ (strip (evO F c)).1 ++ [0 ≤ (x : Int), (x : Int) ≤ y, (y : Int) ≤ 1000000000], ⟨(d, ⟨.obuf τ, nx⟩) :: F, (nx, some (.buf te τ (List.replicate (x : Int).toNat (zeroX τ)))) :: E, nx + 1⟩) else none
        | _, _, _, _ => none
      | .call ⟨.builtin .append, args, ts⟩ => match args.toList, ts.toList with
        | [s, x], [t, u] => if Nat.beq t u then preS ((strip (evO F s)).1 ++ (strip (evO F x)).1) (appV K F E nx d t (strip (evO F s)).2 (strip (evO F x)).2) else none
        | _, _ => none
      | .call ⟨.value x, args, ts⟩ => match calleeV F x with
        | some (f, cs) => match callV K.C E f (args.toList.map (evO F) ++ cs) with
          | some (p, ⟨c, xs⟩) => match c.own with
            | none => if c.res.hand then none else some (p, ⟨(d, ⟨c.res, c.out xs⟩) :: F, E, nx⟩)
            | some te => match c.res, c.out xs with
              | .slice τ, ys => some (p, ⟨(d, ⟨.obuf τ, nx⟩) :: F, (nx, some (.buf te τ ys)) :: E, nx + 1⟩)
              | _, _ => none
          | none => none
        | none => none
      | op => match pOp K.T K.Q E F op with
        | some (p, ⟨t, x⟩) => if !t.hand || handsOn op then some (p, ⟨(d, ⟨t, x⟩) :: F, E, nx⟩) else none
        | none => none) else none
def condV (c : Bool) : V → V
  | ⟨.cond t, x⟩ => ⟨.cond t, (c && x.1, x.2)⟩
  | ⟨t, x⟩ => ⟨.cond t, (c, x)⟩
def gcond : V → Bool → Option Bool
  | ⟨.bool, b⟩, true => some b
  | ⟨.bool, b⟩, false => some (!b)
  | ⟨.cond .bool, (c, b)⟩, true => some (c && b)
  | ⟨.cond .bool, (c, b)⟩, false => some (c && !b)
  | _, _ => none
def impV (c : Bool) : List Prop → V → Res
  | [], v => some ([], condV c v)
  | p :: r, v => some ([c = true → allP (p :: r)], condV c v)
theorem impV_some {c : Bool} {l : List Prop} {v : V} {r : List Prop × V} (h : impV c l v = some r) : (impP c l, condV c v) = r := by
  cases l <;> (cases h; rfl)
/-- an operation that reads, computes, calls, perhaps under a guard -/
noncomputable def gOp (K : Kn) (n : Nat) (ops : Array Oper) (E : Owns) (F : Frame) (o : Oper) : Res :=
  match o.guard with
  | none => match cOp K.T K.Q K.C E F o.op with
    | some (p, ⟨t, x⟩) => if !t.hand || handsOn o.op then some (p, ⟨t, x⟩) else none
    | none => none
  | some (j, want) =>
    match (ops[j]?).bind (·.dst) with
    | some dj => if Nat.blt dj n then (match gcond (Frame.get F dj) want, cOp K.T K.Q K.C E F o.op with
      | some c, some (p, v) => if !v.t.hand || handsOn o.op then impV c p v else none
      | _, _ => none) else none
    | none => none
/-- a literal of bytes, converted to its own type: it is given away -/
def markS (K : Kn) (n : Nat) (o : Oper) : AS → Option (List Prop × AS)
  | ⟨F, E, nx⟩ => match o.op, o.dst with
    | .convert s t x, some d => match (strip (evO F x)).2 with
      | ⟨.obuf _, i⟩ => match Owns.get E i with
        | some (.buf _ (.int .u8) xs) => if Nat.beq s t && tis K.T s (.slice (.int .u8)) && Nat.blt d n then some ((strip (evO F x)).1 ++ [0 < List.length xs], ⟨(d, ⟨.slice (.int .u8), xs⟩) :: Frame.thaw i (.int .u8) xs F, (i, none) :: E, nx⟩) else none
        | _ => none
      | _ => none
    | _, _ => none
/-- a slice of the call's own is cut at its end and goes on as its own -/
def cutS (K : Kn) (n : Nat) (o : Oper) : AS → Option (List Prop × AS)
  | ⟨F, E, nx⟩ => if K.cut = true then (match o.op, o.dst with
    | .slice s x none (some h) none, some d => match (strip (evO F x)).2, numV (evO F h) with
      | ⟨.obuf _, i⟩, some j => match Owns.get E i with
        | some (.buf te τ xs) => if tis K.T s (.slice τ) && Nat.blt d n then some ((strip (evO F x)).1 ++ [0 ≤ j, j ≤ ((List.length xs : Nat) : Int)], ⟨(d, ⟨.obuf τ, i⟩) :: Frame.kill i F, (i, some (.buf te τ (List.take j.toNat xs))) :: Owns.kill i E, nx⟩) else none
        | _ => none
      | _, _ => none
    | _, _ => none) else none
/-- variables that hold handles: made, written -/
def hStep (K : Kn) (n : Nat) (o : Oper) : AS → Option (List Prop × AS)
  | ⟨F, E, nx⟩ => match o.op, o.dst with
    | .store t p x, none => match (strip (evO F p)).2 with
      | ⟨.hptr, (i, k)⟩ => match Owns.get E i, tget K.T t with
        | some (.hbox vs), some τ => match putH E τ.size k vs (strip (evO F x)).2 with
          | some ws => some ((strip (evO F p)).1 ++ (strip (evO F x)).1, ⟨F, (i, some (.hbox ws)) :: E, nx⟩)
          | none => none
        | _, _ => none
      | _ => none
    | .alloc t, some d => if K.H.any (Nat.beq t) && Nat.blt d n then (match tget K.T t with
      | some τ => if (zcells τ).all Value.oneCell' = true then some ([], ⟨(d, ⟨.hptr, (nx, 0)⟩) :: F, (nx, some (.hbox ((zcells τ).map evC))) :: E, nx + 1⟩) else none
      | none => none) else none
    | .build t parts, some d => if K.H.any (Nat.beq t) && Nat.blt d n && parts.toList.isEmpty then (match tget K.T t with
      | some (.pair a b) => some ([], ⟨(d, ⟨.lit, .agg (List.toArray (zcells (.pair a b)))⟩) :: F, E, nx⟩)
      | _ => none) else none
    | _, _ => none
def resV : (t : Ty) → t.T → V
  | .unit, _ => ⟨.junk, ()⟩
  | t, x => ⟨t, x⟩
def putD (n : Nat) (d : Option Nat) (v : V) (F : Frame) : Option Frame :=
  match d with
  | some d => if Nat.blt d n then some ((d, v) :: F) else none
  | none => some F
def rStep (C : List (FuncId × RCtr)) (n : Nat) (o : Oper) (σ : AS) : Option (List Prop × AS) :=
  match o.op with
  | .call ⟨.value (.func f), args, _⟩ => match args.toList, rget C f with
    | a0 :: as, some c => match frzs σ as with
      | ⟨F, E, nx⟩ => match evO F a0 with
        | ⟨.optr _, p⟩ => match Owns.get E p.i with
          | some (.box s x) => if Nat.beq p.p.off 0 && allData c.args && c.res.flat && c.self.data then
             (match coe c.self ⟨s, x⟩, argsV E false (as.map (evO F)) c.args with
              | some y, some (q, xs) => (match putD n o.dst (resV c.res (c.out y xs)) F with
                | some F' => some (q ++ c.pre y xs, ⟨F', (p.i, some (.box c.self (c.post y xs))) :: E, nx⟩)
                | none => none)
              | _, _ => none) else none
          | _ => none
        | _ => none
    | _, _ => none
  | _ => none
noncomputable def aStep (K : Kn) (n : Nat) (ops : Array Oper) (o : Oper) (σ : AS) : Option (List Prop × AS) :=
  match o.guard with
  | none => match markS K n o σ with
    | some r => some r
    | none => match cutS K n o σ with
      | some r => some r
      | none => match hStep K n o σ with
        | some r => some r
        | none => match rStep K.R n o σ with
          | some r => some r
          | none => doStep K n o.dst o.op (frzs σ (needF σ.F K.C o.op))
  | some _ =>
    match o.dst, σ with
    | some d, ⟨F, E, nx⟩ => if Nat.blt d n then (match gOp K n ops E F o with
      | some (p, ⟨t, x⟩) => some (p, ⟨(d, ⟨t, x⟩) :: F, E, nx⟩)
      | none => none) else none
    | none, _ => none
noncomputable def aSeq (K : Kn) (n : Nat) (ops : Array Oper) : List Oper → AS → Option (List Prop × AS)
  | [], σ => some ([], σ)
  | o :: r, σ => match aStep K n ops o σ with
    | some (p, σ') => preS p (aSeq K n ops r σ')
    | none => none
/-- the head of a region that draws its order: each by itself -/
noncomputable def aHead (K : Kn) (n : Nat) (ops : Array Oper) : List Oper → AS → Option (List Prop × AS)
  | [], σ => some ([], σ)
  | o :: r, ⟨F, E, nx⟩ => match o.dst with
    | some d => if Nat.blt d n then (match gOp K n ops E F o with
      | some (p, ⟨t, x⟩) => preS p (aHead K n ops r ⟨(d, ⟨t, x⟩) :: F, E, nx⟩)
      | none => none) else none
    | none => none
/-- the operands and the guard's slot of an operation -/
def seesT (ops : Array Oper) (o : Oper) : List Nat :=
  (o.op.operands.toList.filterMap fun x => match x with | .tmp t => some t | _ => none) ++ (match o.guard with | some (j, _) => ((ops[j]?).bind (·.dst)).toList | none => [])
/-- in the head each operation sees slots of the head only behind those that write them; each writes a slot of its own -/
def flowB (ops : Array Oper) (m : Nat) : Bool :=
  (List.range m).all fun j => match ops[j]? with
    | some oj => (List.range m).all fun i => match ops[i]? with
      | some oi => (Nat.beq i j || !(oi.dst == oj.dst)) && ((seesT ops oj).all fun t => !(oi.dst == some t) || (Nat.blt i j && oj.after.any fun e => Nat.beq e.on i && Region.binds .any e))
      | none => false
    | none => false
def backB (ops : Array Oper) : Bool := (List.range ops.size).all fun i => match ops[i]? with | some o => o.after.all fun e => Nat.blt e.on i || !Region.binds .any e | none => false
def headB (ops : Array Oper) (m : Nat) : Bool :=
  Nat.ble m ops.size && flowB ops m && backB ops && (Nat.beq m ops.size || (Region.sinkB .any ops m && Region.chainB .any ops m)) &&
    Region.seqB .any ops (ops.size - m) m (List.replicate m true ++ List.replicate (ops.size - m) false).toArray
end Go.Proofs.YtbbeldmcdjjnbaaDoor
namespace Go.Proofs.YtbbeldmcdjjnbaaDoor
open Go Go.RowKit
set_option linter.unusedSimpArgs false
set_option linter.unusedVariables false

section
variable {P : Program} {K : Kn} {w0 : World} {X : Ownr} {n : Nat} {σ : AS} {β : Nat → Value} {a : Act} {w : World}

theorem Sim.hO (h : Sim w0 X n σ β a w) (hX : X.Ok w0) : ∀ g, OSet X σ.E β g → g < w.heap.size := by
  rintro g (hg | ⟨i, o, h1, h2⟩)
  · exact Nat.lt_of_lt_of_le (hX.1 g hg).1 h.bel.size
  · exact ((h.own i o h1).block_lt h2).2
theorem Sim.ops (h : Sim w0 X n σ β a w) (x : Operand) : RepV w (OSet X σ.E β) β (evO σ.F x).t (evO σ.F x).x (a.eval x) :=
  evO_rep fun s _ => h.fr s
theorem Sim.frz (h : Sim w0 X n σ β a w) (hX : X.Ok w0) (x : Operand) : Sim w0 X n (frz σ x) β a w := by
  unfold Go.Proofs.YtbbeldmcdjjnbaaDoor.frz
  split
  · split
    · rename_i he
      exact h.freeze hX he
    · exact h
  · exact h
theorem Sim.frzs (h : Sim w0 X n σ β a w) (hX : X.Ok w0) (l : List Operand) : Sim w0 X n (frzs σ l) β a w := by
  induction l generalizing σ with
  | nil => exact h
  | cons x l ih => exact ih (h.frz hX x)

/-! ### bounds of handles -/
theorem bnd_data : ∀ (t : Ty) (x : t.T), t.data = true → bnd t x = 0 := by
  intro t x h
  cases t <;> first | rfl | cases h
theorem strip_bound (v : V) : (strip v).2.bound ≤ v.bound := by
  obtain ⟨t, x⟩ := v
  cases t <;> exact Nat.le_refl _
theorem evO_bound {F : Frame} {m : Nat} (h : ∀ s, (Frame.get F s).bound ≤ m) (x : Operand) : (evO F x).bound ≤ m := by
  cases x with
  | tmp s => exact h s
  | const v =>
    show (evC v).bound ≤ m
    have : (evC v).bound = 0 := by
      cases v with
      | int k n =>
        have key : ∀ (k : IntKind) (x : IntT k), (if encI k x = n then (⟨.int k, x⟩ : V) else ⟨.lit, .int k n⟩).bound = 0 := by
          intro k x
          split <;> rfl
        cases k <;> first | exact key _ _ | rfl
      | string s =>
        simp only [evC]
        cases Nat.ble s.data.toList.length 1000000 <;> rfl
      | _ => rfl
    omega
  | global g => exact Nat.zero_le _
  | func f => exact Nat.zero_le _

theorem bnd_hand : ∀ (t : Ty) (x : t.T), t.hand = false → bnd t x = 0 := by
  intro t
  induction t with
  | cond t ih => intro x h; exact ih _ h
  | optr => intro x h; cases h
  | obuf => intro x h; cases h
  | hptr => intro x h; cases h
  | hcons => intro x h; cases h
  | _ => intro x h; rfl
theorem pOp_bound {T : Tbl} {Q : List TypeId} {E : Owns} {F : Frame} {op : Op} {r : List Prop × V} (h : pOp T Q E F op = some r) (hh : (!r.2.t.hand || handsOn op) = true) {m : Nat} (hF : ∀ s, (Frame.get F s).bound ≤ m) (hE : ∀ i o, Owns.get E i = some o → i < m ∧ o.under m) (hT : ∀ t τ, tget T t = some τ → τ.data = true) : r.2.bound ≤ m := by
  cases hr : r.2.t.hand with
  | false => show bnd _ _ ≤ m; rw [bnd_hand _ _ hr]; exact Nat.zero_le _
  | true =>
    rw [hr] at hh
    have sb : ∀ x, (strip (evO F x)).2.bound ≤ m := fun x => Nat.le_trans (strip_bound _) (evO_bound hF x)
    cases op <;> first | (cases hh; done) | skip
    · cases h; exact evO_bound hF _
    · cases h; exact evO_bound hF _
    · rename_i t x
      obtain ⟨q, h1, rfl⟩ := pre_some h
      have dat0 : ∀ (τ : Ty) (y : τ.T), tget T t = some τ → bnd τ y ≤ m := fun τ y hτ => by rw [bnd_data _ _ (hT _ _ hτ)]; exact Nat.zero_le _
      unfold loadV at h1
      split at h1
      · split at h1 <;> first | (cases h1; done) | skip
        rename_i hs
        cases h1
        exact dat0 _ _ (tis_get hs)
      · split at h1 <;> first | (cases h1; done) | skip
        rename_i hs
        cases h1
        exact dat0 _ _ (tis_get hs)
      · split at h1 <;> first | (cases h1; done) | skip
        split at h1 <;> first | (cases h1; done) | skip
        rename_i hs
        split at h1 <;> first | (cases h1; done) | skip
        split at h1 <;> first | (cases h1; done) | skip
        cases h1
        simp only [Bool.and_eq_true] at hs
        exact dat0 _ _ (tis_get hs.1)
      · split at h1 <;> first | (cases h1; done) | skip
        rename_i vs he
        split at h1 <;> first | (cases h1; done) | skip
        rename_i τ hτ
        split at h1
        · split at h1 <;> first | (cases h1; done) | skip
          cases h1
          exact dat0 _ _ hτ
        · split at h1 <;> first | (cases h1; done) | skip
          rename_i v r hv
          split at h1 <;> first | (cases h1; done) | skip
          cases h1
          have hm : v ∈ vs := List.mem_of_mem_drop (by rw [hv]; exact List.mem_cons_self)
          exact (hE _ _ he).2 vs rfl v hm
      · cases h1
    · rename_i x
      have := sb x
      simp only [pOp] at h
      split at h <;> first | (cases h; done) | skip
      · rename_i he; cases h; rw [he] at this; exact this
      · rename_i he; cases h; rw [he] at this; exact this
      · rename_i he; cases h; rw [he] at this; exact this
    · rename_i s x f
      obtain ⟨q, h1, rfl⟩ := pre_some h
      have := sb x
      unfold fieldAddrV at h1
      split at h1
      · split at h1 <;> first | (cases h1; done) | skip
        split at h1 <;> first | (cases h1; done) | skip
        split at h1 <;> first | (cases h1; done) | skip
        cases h1
        exact Nat.zero_le _
      · split at h1 <;> first | (cases h1; done) | skip
        split at h1 <;> first | (cases h1; done) | skip
        split at h1 <;> first | (cases h1; done) | skip
        cases h1
        exact Nat.zero_le _
      · rename_i he
        split at h1 <;> first | (cases h1; done) | skip
        split at h1 <;> first | (cases h1; done) | skip
        split at h1 <;> first | (cases h1; done) | skip
        cases h1
        rw [he] at this
        exact this
      · rename_i he
        split at h1 <;> first | (cases h1; done) | skip
        split at h1 <;> first | (cases h1; done) | skip
        split at h1 <;> first | (cases h1; done) | skip
        cases h1
        rw [he] at this
        exact this
      · cases h1
    · rename_i t x i
      obtain ⟨q, h1, rfl⟩ := pre_some h
      have := sb x
      unfold indexAddrV at h1
      split at h1
      · split at h1 <;> first | (cases h1; done) | skip
        cases h1
        exact Nat.zero_le _
      · split at h1 <;> first | (cases h1; done) | skip
        cases h1
        exact Nat.zero_le _
      · rename_i he _
        split at h1 <;> first | (cases h1; done) | skip
        cases h1
        rw [he] at this
        exact this
      · rename_i he _
        split at h1 <;> first | (cases h1; done) | skip
        split at h1 <;> first | (cases h1; done) | skip
        cases h1
        rw [he] at this
        exact this
      · cases h1

/-! ### one operation -/
theorem Sim.puts (h : Sim w0 X n σ β a w) {w' : World} (hk : Below w.heap.size w w') {v : V} {u : Value} (hr : RepV w' (OSet X σ.E β) β v.t v.x u) (hb : v.bound ≤ σ.nx) {d : Nat} (hd : d < n) : Sim w0 X n (σ.put d v) β (a.put (some d) u) w' :=
  h.put hk hr hb hd
theorem Path.set_rep : ∀ {r t : Ty} (p : Path r t) (x : r.T) (y : t.T) (cs c : List Value) {O : Nat → Prop}, RootRep w O p.isElm r x cs → allP (p.vcs x) → RepC w O t y c → RootRep w O p.isElm r (p.set x y) (over cs p.off c) := by
  intro r t p
  induction p with
  | here =>
    intro x y cs c O h _ hc
    have l1 := RepC.len _ _ _ h
    have l2 := RepC.len _ _ _ hc
    have : over cs 0 c = c := by simp [over, l1, l2]
    simp only [Path.off, this]
    exact hc
  | @fst r a b p ih =>
    intro x y cs c O h hv hc
    obtain ⟨⟨c1, c2, h1, h2, h3⟩, h4⟩ := Path.rep p x cs h hv
    have l0 := RepC.len _ _ _ hc
    have l1 := RepC.len _ _ _ h2
    have l2 := RepC.len _ _ _ h3
    simp only [Ty.size] at h1 h4
    have := ih x (y, (p.get x).2) cs (c ++ c2) h hv ⟨c, c2, rfl, hc, h3⟩
    have e : over cs p.off (c ++ c2) = over cs p.off c := by
      have hd : cs.drop (p.off + a.size) = c2 ++ cs.drop (p.off + a.size + b.size) := by
        have h5 : cs.drop p.off = c1 ++ c2 ++ (cs.drop p.off).drop (a.size + b.size) := by
          rw [← h1, List.take_append_drop]
        rw [← List.drop_drop, h5, List.append_assoc, ← l1, List.drop_left, List.drop_drop, Nat.add_assoc]
      simp only [over, List.length_append, l0, l2]
      rw [← Nat.add_assoc, hd]
      simp
    rw [e] at this
    exact this
  | @snd r a b p ih =>
    intro x y cs c O h hv hc
    obtain ⟨⟨c1, c2, h1, h2, h3⟩, h4⟩ := Path.rep p x cs h hv
    have l0 := RepC.len _ _ _ hc
    have l1 := RepC.len _ _ _ h2
    simp only [Ty.size] at h1 h4
    have := ih x ((p.get x).1, y) cs (c1 ++ c) h hv ⟨c1, c, rfl, h2, hc⟩
    have e : over cs p.off (c1 ++ c) = over cs (p.off + a.size) c := by
      have hd : cs.take (p.off + a.size) = cs.take p.off ++ c1 := by
        have h5 : (cs.drop p.off).take a.size = c1 := by
          have h6 : ((cs.drop p.off).take (a.size + b.size)).take a.size = c1 := by rw [h1, ← l1, List.take_left]
          rwa [List.take_take, Nat.min_eq_left (by omega)] at h6
        rw [← h5, List.take_add]
      simp only [over, List.length_append, l0, l1, hd]
      simp [Nat.add_assoc]
    rw [e] at this
    exact this
  | @idx r t n p k ih =>
    intro x y cs c O h hv hc
    rw [Path.vcs, allP_append] at hv
    have hk : k < n := hv.2
    obtain ⟨⟨h1, h2⟩, h4⟩ := Path.rep p x cs h hv.1
    simp only [Ty.size] at h2 h4
    have l0 := RepC.len _ _ _ hc
    have hlen : List.length (p.get x) = n := h1
    have hset := h2.set (fun x c => RepC.len t x c) (show k < List.length (p.get x) by omega) hc
    have := ih x (List.set (p.get x) k y) cs _ h hv.1 ⟨by simp [hlen], hset⟩
    have e : over cs p.off (((cs.drop p.off).take (n * t.size)).take (k * t.size) ++ c ++ ((cs.drop p.off).take (n * t.size)).drop (k * t.size + t.size)) = over cs (p.off + k * t.size) c := by
      have hle : k * t.size + t.size ≤ n * t.size := by
        have := Nat.mul_le_mul_right t.size (show k + 1 ≤ n by omega)
        rwa [Nat.add_mul, Nat.one_mul] at this
      have hl : (((cs.drop p.off).take (n * t.size)).take (k * t.size) ++ c ++ ((cs.drop p.off).take (n * t.size)).drop (k * t.size + t.size)).length = n * t.size := by
        simp [l0]; omega
      simp only [over, hl, l0]
      rw [List.take_add (i := p.off) (j := k * t.size), List.take_take, Nat.min_eq_left (by omega), List.drop_take, List.drop_drop]
      have e3 : cs.drop (p.off + k * t.size + t.size) = ((cs.drop (p.off + (k * t.size + t.size))).take (n * t.size - (k * t.size + t.size))) ++ cs.drop (p.off + n * t.size) := by
        have h7 := (List.take_append_drop (n * t.size - (k * t.size + t.size)) (cs.drop (p.off + (k * t.size + t.size)))).symm
        rw [List.drop_drop, show p.off + (k * t.size + t.size) + (n * t.size - (k * t.size + t.size)) = p.off + n * t.size by omega] at h7
        rw [Nat.add_assoc]
        exact h7
      rw [e3]
      simp
    rw [e] at this
    exact this
  | @elm t k =>
    intro x y cs c O h hv hc
    have hk : k < List.length x := hv
    have h' : RepL (RepC w O t) x cs := h
    have l0 := RepC.len _ _ _ hc
    have := h'.set (fun x c => RepC.len t x c) hk hc
    show RepL (RepC w O t) (List.set x k y) (over cs (k * t.size) c)
    simp only [over, l0]
    exact this

theorem grownBy_row (w : World) (g : Nat) (cs : Array Value) : w.grownBy (w.setRow g cs) (some g) :=
  ⟨rfl, rfl, rfl, by simp, fun k _ hne => setRow_other w g k cs (fun e => hne (by rw [e]))⟩
theorem rootRep_keep {w w' : World} {O O' : Nat → Prop} (hk : Keeps w w' O O') : ∀ (e : Bool) (r : Ty) (x : r.T) (cs : List Value), RootRep w O e r x cs → RootRep w' O' e r x cs
  | false, r, x, cs, h => RepC.keep hk _ _ _ h
  | true, .slice s, x, cs, h => RepL.mono h fun y _ c => RepC.keep hk _ _ _
  | true, .bool, _, _, h => h.elim
  | true, .int _, _, _, h => h.elim
  | true, .str, _, _, h => h.elim
  | true, .unit, _, _, h => h.elim
  | true, .pair _ _, _, _, h => h.elim
  | true, .arr _ _, _, _, h => h.elim
  | true, .junk, _, _, h => h.elim
  | true, .lit, _, _, h => h.elim
  | true, .vptr _, _, _, h => h.elim
  | true, .cptr _ _ _, _, _, h => h.elim
  | true, .optr _, _, _, h => h.elim
  | true, .obuf _, _, _, h => h.elim
  | true, .tup _ _, _, _, h => h.elim
  | true, .cond _, _, _, h => h.elim
/-- the cells behind something of the call's own, and it anew when they are written -/
theorem OwnRep.anew {O : Nat → Prop} {B : Nat} {bv : Value} {o : OObj} (h : OwnRep w O β B bv o) (hH : ∀ vs, o ≠ .hbox vs) {g : Nat} (hg : blockOf bv = some g) :
    ∃ cs cur ty, RootRep w O o.isBuf o.v.t o.v.x cs ∧ w.heap[g]? = some (.cells cur ty (0, 0)) ∧ cs.length ≤ cur.size ∧ cur.toList.take cs.length = cs ∧
      ∀ (w' : World) (O' : Nat → Prop) (o' : OObj) (cs' : List Value) (cur' : Array Value), o'.isBuf = o.isBuf → (∀ te t xs, o = .buf te t xs → ∃ ys : List t.T, o' = .buf te t ys ∧ ys.length = xs.length) → RootRep w' O' o'.isBuf o'.v.t o'.v.x cs' → cs'.length = cs.length → cur'.size = cur.size → cur'.toList.take cs.length = cs' → w'.heap[g]? = some (.cells cur' ty (0, 0)) → OwnRep w' O' β B bv o' := by
  cases o with
  | box t x =>
    obtain ⟨g', cs, ty, rfl, h1, h2, h3⟩ := h
    cases hg
    refine ⟨cs, cs.toArray, ty, h3, h2, by simp, by simp, fun w' O' o' cs' cur' hb _ hr hl hs ht hh => ?_⟩
    cases o' with
    | buf te t ys => cases hb
    | hbox vs =>
      have hr' : RootRep w' O' false .junk () cs' := hr
      exact hr'.elim
    | box t' x' =>
      refine ⟨g', cur'.toList, ty, rfl, h1, by simpa using hh, ?_⟩
      have : cur'.toList = cs' := by rw [← ht, List.take_of_length_le (by simp [hs])]
      rw [this]
      exact hr
  | hbox vs => exact absurd rfl (hH vs)
  | buf te t xs =>
    obtain ⟨cs, h1, h2, h3⟩ := h
    rcases h2.2 with ⟨rfl, _⟩ | ⟨g', cap, cur, rfl, h4, h5, h6, h7, h8, h9⟩
    · cases hg
    · cases hg
      have hcl := h2.1
      have hle : cs.length ≤ cur.size := by rw [hcl, h8]; exact Nat.mul_le_mul_right _ h6
      refine ⟨cs, cur, te, h1, h5, hle, by rw [hcl]; exact h9, fun w' O' o' cs' cur' hb hbuf hr hl hs ht hh => ?_⟩
      obtain ⟨ys, rfl, hy⟩ := hbuf te t xs rfl
      refine ⟨cs', hr, ⟨by rw [hl, hcl, hy], .inr ⟨g', cap, cur', by rw [hy], h4, hh, by rw [hy]; exact h6, h7, by rw [hs]; exact h8, by rw [hy, ← hcl]; exact ht⟩⟩, h3⟩
theorem elm_len : ∀ {r t : Ty} (p : Path r t) (s : Ty) (h : r = .slice s) (x : r.T) (y : t.T), p.isElm = true → List.length (h ▸ p.set x y : (Ty.slice s).T) = List.length (h ▸ x : (Ty.slice s).T) := by
  intro r t p
  induction p with
  | here => intro s h x y he; cases he
  | fst p ih => intro s h x y he; exact ih s h x _ he
  | snd p ih => intro s h x y he; exact ih s h x _ he
  | idx p k ih => intro s h x y he; exact ih s h x _ he
  | elm k => intro s h x y he; cases h; exact List.length_set
/-- a store through a place of the call's own -/
theorem storeAt_own {B : Nat} {O : Nat → Prop} {bv : Value} {o o' : OObj} (hown : OwnRep w O β B bv o) {g : Nat} (hg : blockOf bv = some g) (hOg : O g) {τ : Ty} {t : TypeId} (ht : Lay P τ (.inl t)) {root : Ty} {p : Path root τ} {y : τ.T} {vc : List Prop} (hset : o.set p y = some (vc, o')) (hp : allP vc) {u : Value} (hu : RepD w O τ y u) :
    ∃ w', (Instr.storeAt t (.pointer (some ⟨g, p.off, none⟩)) u).run P w = .ok () w' ∧ w.grownBy w' (some g) ∧ (Keeps w w' O O → OwnRep w' O β B bv o') ∧ o'.isBuf = o.isBuf := by
  obtain ⟨cs, cur, ty, h1, h2, h3, h4, h5⟩ := hown.anew (by rintro vs rfl; cases hset) hg
  have hc := hu.cells
  have hlc := RepC.len _ _ _ hc
  have hroot : ∃ x : root.T, RootRep w O p.isElm root x cs ∧ allP (p.vcs x) ∧ o'.isBuf = o.isBuf ∧ (∀ te t xs, o = .buf te t xs → ∃ ys : List t.T, o' = .buf te t ys ∧ (ys.length = xs.length)) ∧ (∀ w' O' cs', RootRep w' O' p.isElm root (p.set x y) cs' → RootRep w' O' o'.isBuf o'.v.t o'.v.x cs') := by
    cases o with
    | box s x =>
      simp only [OObj.set] at hset
      split at hset
      · rename_i he
        split at hset
        · rename_i z hz
          rw [Path.setO_eq] at hset
          cases hset
          have hz' := castO_spec hz
          refine ⟨z, ?_, hp, rfl, ?_, ?_⟩
          · rw [he]
            have h1' : RootRep w O false (OObj.box s x).v.t (OObj.box s x).v.x cs := h1
            rw [show (OObj.box s x).v = ⟨root, z⟩ from hz'] at h1'
            exact h1'
          · intro te' t' xs' h; cases h
          · intro w' O' cs' h; rw [he] at h; exact h
        · cases hset
      · cases hset
    | buf te s xs =>
      simp only [OObj.set] at hset
      split at hset
      · rename_i he
        generalize tyEq? (.slice s) root = e at hset
        cases e with
        | none => cases hset
        | some e =>
          obtain ⟨e⟩ := e
          subst e
          simp only [setBuf, Path.setO_eq] at hset
          cases hset
          refine ⟨xs, ?_, hp, rfl, ?_, ?_⟩
          · rw [he]; exact h1
          · intro te' t' xs' h
            cases h
            exact ⟨_, rfl, elm_len p s rfl xs y he⟩
          · intro w' O' cs' h; rw [he] at h; exact h
      · cases hset
    | hbox vs => cases hset
  obtain ⟨x, hx, hvx, hb, hbuf, hback⟩ := hroot
  obtain ⟨_, hle⟩ := Path.rep p x cs hx hvx
  have hfit : p.off + 0 + u.cells.toList.length ≤ cur.size := by rw [hlc]; omega
  have hrun := run_storeCells_at P g p.off ty u.cells.toList 0 cur w h2 hfit (RepC.oneCell _ _ _ hc)
  simp only [Nat.add_zero] at hrun
  refine ⟨w.setRow g (over cur.toList p.off u.cells.toList).toArray, ?_, grownBy_row w g _, fun hk => ?_, hb⟩
  · unfold Instr.storeAt Instr.sureAddr storeVar
    simp only [Sem.run_bind, Sem.run_pure, Result.andThen_ok, ht.sizeOf]
    rw [if_neg (by simp only [ne_eq, Decidable.not_not]; rw [← hlc]; simp)]
    exact hrun
  · have hnew := hback _ _ _ (rootRep_keep hk _ _ _ _ (Path.set_rep p x y cs u.cells.toList hx hvx hc))
    have hol : (over cs p.off u.cells.toList).length = cs.length := over_length (by rw [hlc]; exact hle)
    refine h5 _ _ o' _ _ hb hbuf hnew hol ?_ ?_ (setRow_heap w g cur _ ty _ h2)
    · rw [List.size_toArray, over_length (by rw [hlc, Array.length_toList]; omega), Array.length_toList]
    · have e1 : over (cur.toList.take cs.length) p.off u.cells.toList = (over cur.toList p.off u.cells.toList).take cs.length := by
        simp only [over]
        rw [List.take_append, List.take_append, List.take_take, List.drop_take]
        simp only [List.length_take, Array.length_toList, List.length_append, hlc]
        rw [Nat.min_eq_left (show p.off ≤ cs.length by omega), Nat.min_eq_left (show p.off ≤ cur.size by omega), List.take_take, Nat.min_eq_right (show p.off ≤ cs.length by omega), List.take_of_length_le (show u.cells.toList.length ≤ cs.length - p.off by omega)]
      rw [h4] at e1
      rw [e1]
end
end Go.Proofs.YtbbeldmcdjjnbaaDoor
namespace Go.Proofs.YtbbeldmcdjjnbaaDoor
open Go Go.RowKit
set_option linter.unusedSimpArgs false
set_option linter.unusedVariables false

section
variable {P : Program} {K : Kn} {w0 : World} {X : Ownr} {n : Nat} {σ : AS} {β : Nat → Value} {a : Act} {w : World} {N : Act → World → Prop} {R : Exit → Act → World → Prop}

theorem wp_run {o : Oper} {u : Value} {w' : World} (h : (execOp a.eval o).run P w = .ok (.value u) w') (hN : N (a.put o.dst u) w') : o.wp P a w N R := by
  unfold Oper.wp
  rw [h]
  exact hN
theorem run_v {s : Sem Value} {u : Value} {w' : World} (h : s.run P w = .ok u w') : (do pure (.value (← s)) : Sem Next).run P w = .ok (.value u) w' := by simp [h]
theorem OwnRep.base {w : World} {O : Nat → Prop} {B B' : Nat} {bv : Value} {o : OObj} (h : OwnRep w O β B bv o) (hB : B' ≤ B) : OwnRep w O β B' bv o := by
  cases o with
  | box t x =>
    obtain ⟨g, cs, ty, e, h1, h2⟩ := h
    exact ⟨g, cs, ty, e, Nat.le_trans hB h1, h2⟩
  | buf te t xs =>
    obtain ⟨cs, h1, h2, h3⟩ := h
    refine ⟨cs, h1, ⟨h2.1, ?_⟩, h3⟩
    rcases h2.2 with h4 | ⟨g, cap, cur, e, h5, h6⟩
    · exact .inl h4
    · exact .inr ⟨g, cap, cur, e, Nat.le_trans hB h5, h6⟩
  | hbox vs =>
    obtain ⟨g, cs, ty, e, h1, h2⟩ := h
    exact ⟨g, cs, ty, e, Nat.le_trans hB h1, h2⟩
/-- what a place is written in is no variable that holds handles -/
theorem OObj.set_under {r t : Ty} {o o' : OObj} {p : Path r t} {y : t.T} {vc : List Prop} {k : Nat} (h : o.set p y = some (vc, o')) : o'.under k := by
  cases o with
  | box s x =>
    simp only [OObj.set] at h
    split at h
    · split at h
      · split at h
        · cases h; intro _ e; cases e
        · cases h
      · cases h
    · cases h
  | buf te s xs =>
    simp only [OObj.set] at h
    split at h
    · generalize tyEq? (.slice s) r = e at h
      cases e with
      | none => cases h
      | some e =>
        obtain ⟨e⟩ := e
        subst e
        simp only [setBuf] at h
        split at h
        · cases h; intro _ e; cases e
        · cases h
    · cases h
  | hbox vs => cases h
/-- a new variable -/
theorem Sim.var (h : Sim w0 X n σ β a w) (hX : X.Ok w0) {τ : Ty} {x : τ.T} {cs : List Value} (hr : RepC w (OSet X σ.E β) τ x cs) {ty : TypeId} {d : Nat} (hd : d < n) :
    ∃ β', Sim w0 X n ⟨(d, ⟨.optr τ, ⟨σ.nx, τ, .here⟩⟩) :: σ.F, (σ.nx, some (.box τ x)) :: σ.E, σ.nx + 1⟩ β' (a.put (some d) (.pointer (some ⟨w.heap.size, 0, none⟩))) (w.alloc (.cells cs.toArray ty)) := by
  refine h.make hX (below_alloc w _) (bv := .pointer (some ⟨w.heap.size, 0, none⟩)) (o := .box τ x) (v := ⟨.optr τ, ⟨σ.nx, τ, .here⟩⟩) ?_ ?_ ?_ ?_ hd
  · intro O β' hO
    refine ⟨w.heap.size, cs, ty, rfl, Nat.zero_le _, heap_alloc_new w _, RepC.keep (.of_below (below_alloc w _) fun g hg hg' => ?_) _ _ _ hr⟩
    rcases hO g hg' with h1 | h1
    · exact h1
    · have : w.heap.size = g := by simpa [blockOf] using h1
      omega
  · intro g hg
    cases hg
    exact Nat.le_refl _
  · intro O β' hβ
    exact ⟨w.heap.size, by show blockOf (β' σ.nx) = _; rw [hβ]; rfl, rfl⟩
  · exact Nat.le_refl _
/-- a new slice of the call's own -/
theorem Sim.buf (h : Sim w0 X n σ β a w) (hX : X.Ok w0) {w' : World} (hk : Below w.heap.size w w') {τ : Ty} {te : TypeId} {xs : List τ.T} {u : Value}
    (hr : OwnRep w' (fun g => OSet X σ.E β g ∨ blockOf u = some g) β w.heap.size u (.buf te τ xs)) {d : Nat} (hd : d < n) :
    ∃ β', Sim w0 X n ⟨(d, ⟨.obuf τ, σ.nx⟩) :: σ.F, (σ.nx, some (.buf te τ xs)) :: σ.E, σ.nx + 1⟩ β' (a.put (some d) u) w' := by
  refine h.make hX hk (bv := u) (o := .buf te τ xs) (v := ⟨.obuf τ, σ.nx⟩) ?_ ?_ ?_ ?_ hd
  · intro O β' hO
    have h1 := hr.keep (O' := O) ⟨Nat.le_refl _, fun _ _ _ => rfl, fun g _ hg => hO g hg⟩ fun _ _ => rfl
    exact h1.base (Nat.zero_le _)
  · exact fun g hg => (hr.block_lt hg).1
  · intro O β' hβ
    exact hβ.symm
  · exact Nat.le_refl _

theorem ownRep_new {w : World} {O : Nat → Prop} (hO : ∀ g, O g → g < w.heap.size) {τ : Ty} (hz : 0 < τ.size) {xs : List τ.T} {ds : List Value} {te : TypeId} (h : RepL (RepC w O τ) xs ds) {len cap : Nat} (hl : xs.length = len) (hc : len ≤ cap) (hm : cap ≤ maxLen) {cur : Array Value} (hcur : cur.size = cap * τ.size) (ht : cur.toList.take ds.length = ds) :
    OwnRep (w.alloc (.cells cur te)) (fun g => O g ∨ blockOf (.slice (some ⟨w.heap.size, 0, none⟩) len cap) = some g) β w.heap.size (.slice (some ⟨w.heap.size, 0, none⟩) len cap) (.buf te τ xs) := by
  have hd := h.len (fun x c => RepC.len τ x c)
  refine ⟨ds, h.mono fun x _ c => RepC.keep (.of_below (below_alloc w _) fun g hg hg' => ?_) _ _ _, ⟨hd, .inr ⟨w.heap.size, cap, cur, by rw [hl], Nat.le_refl _, heap_alloc_new w _, by rw [hl]; exact hc, hm, hcur, by rw [← hd]; exact ht⟩⟩, hz⟩
  rcases hg' with h1 | h1
  · exact h1
  · have : w.heap.size = g := by simpa [blockOf] using h1
    omega
theorem coe_slice {τ : Ty} {v : V} {ys : List τ.T} (h : coe (.slice τ) v = some ys) : v = ⟨.slice τ, ys⟩ ∨ (v = ⟨.lit, .slice none 0 0⟩ ∧ ys = []) := by
  rcases coe_spec h with h1 | ⟨h1, τ', h2⟩
  · exact .inl h1
  · cases h2; exact .inr ⟨h1, rfl⟩
theorem preS_some {A : List Prop} {o : Option (List Prop × AS)} {r : List Prop × AS} (h : preS A o = some r) : ∃ q, o = some q ∧ (A ++ q.1, q.2) = r := by
  induction A generalizing r with
  | nil => exact ⟨r, h, rfl⟩
  | cons a A ih =>
    simp only [preS] at h
    split at h <;> first | (cases h; done) | skip
    rename_i p v hp
    cases h
    obtain ⟨q, h1, h2⟩ := ih hp
    cases h2
    exact ⟨q, h1, rfl⟩
theorem doStep_wp (hK : KnOk P X.G K) (hX : X.Ok w0) (h : Sim w0 X n σ β a w) {o : Oper} {r : List Prop × AS} (hs : doStep K n o.dst o.op σ = some r) (hp : allP r.1)
    (hN : ∀ β' a' w', Sim w0 X n r.2 β' a' w' → N a' w') : o.wp P a w N R := by
  have hO := h.hO hX
  generalize hdst : o.dst = dst at hs
  generalize hop : o.op = op at hs
  obtain ⟨F, E, nx⟩ := σ
  simp only [doStep] at hs
  split at hs
  · -- a store
    split at hs
    · rename_i t p x
      split at hs
      · rename_i τ i rt q hq
        split at hs
        · rename_i ob hob
          split at hs
          · rename_i hty
            split at hs
            · rename_i y hy
              split at hs <;> first | (cases hs; done) | skip
              rename_i vc o' h1
              cases hs
              simp only [allP_append] at hp
              have hpp := strip_rep (h.ops p) hp.1.1
              rw [hq] at hpp
              obtain ⟨g, h2, h3⟩ := hpp
              have hl := hK.t.is hty
              have hx := coe_rep hl.data hy (strip_rep (h.ops x) hp.1.2)
              obtain ⟨w', h4, h5, h6, h7⟩ := storeAt_own (h.own _ _ hob) h2 (.inr ⟨_, _, hob, h2⟩) hl h1 hp.2 hx
              unfold Oper.wp
              have e : (execOp a.eval o).run P w = .ok .skip w' := by
                unfold execOp
                simp only [hop]
                rw [h3]
                simp [h4]
              rw [e]
              show N (a.put o.dst undef) w'
              rw [hdst]
              exact hN β a w' (h.write hob (by rw [h2]; exact h5) h6 h7 (OObj.set_under ‹_›))
            · cases hs
          · cases hs
        · cases hs
      · cases hs
    · cases hs
  · rename_i d
    split at hs
    · rename_i hdn
      have hd : d < n := by simpa using hdn
      split at hs
      · -- alloc
        rename_i t
        split at hs
        · rename_i τ ht
          cases hs
          have hl := hK.t.lay _ _ ht
          obtain ⟨i, z, hi, _, hz, hzc, _⟩ := hl.info
          obtain ⟨β', hs'⟩ := h.var hX (repC_zero w (OSet X E β) τ hl.data) (ty := t) hd
          refine wp_run (u := .pointer (some ⟨w.heap.size, 0, none⟩)) (w' := w.alloc (.cells (zcells τ).toArray t)) ?_ (by rw [hdst]; exact hN β' _ _ hs')
          unfold execOp
          simp [hop, Instr.alloc, zeroValue, typeInfo, hi, hz, newVar, newRow, hzc]
        · cases hs
      · -- box
        rename_i t x
        split at hs
        · rename_i τ ht
          split at hs <;> first | (cases hs; done) | skip
          rename_i y h1
          cases hs
          have hl := hK.t.lay _ _ ht
          have hx := coe_rep hl.data h1 (strip_rep (h.ops x) hp)
          obtain ⟨β', hs'⟩ := h.var hX hx.cells (ty := t) hd
          refine wp_run (u := .pointer (some ⟨w.heap.size, 0, none⟩)) (w' := w.alloc (.cells (a.eval x).cells t)) ?_ (by rw [hdst]; exact hN β' _ _ (by simpa using hs'))
          unfold execOp
          simp [hop, Instr.box, newVar, newRow]
        · cases hs
      · -- a slice's literal
        rename_i t len parts
        split at hs
        · rename_i te p e xs hte hq
          cases hs
          have hps : RepPs w (OSet X E β) β (parts.toList.map fun p => (p.1, evO F p.2)) (parts.map fun p => (p.1, a.eval p.2)).toList := by
            rw [Array.toList_map]
            exact repPs_map fun p hpm => h.ops p.2
          obtain ⟨ds, te', hu, hl, hz, h1, h2, h3⟩ := buildSliceV_run hK.t hq hp hps
          have : te = te' := by have := hK.u _ _ hte; rw [hu] at this; cases this; rfl
          subst this
          have hdl := h1.len (fun x c => RepC.len _ x c)
          have hlen : len ≤ maxLen := by
            unfold buildSliceV at hq
            split at hq
            · split at hq
              · rename_i e _ hb
                simp only [Bool.and_eq_true, Nat.ble_eq] at hb
                have hpos : 0 < e.size := by simpa using hb.2
                have := Nat.le_mul_of_pos_right len hpos
                simp only [maxLen]
                omega
              · cases hq
            · cases hq
          have hown := ownRep_new (β := β) (te := te) hO hz h1 h2 (Nat.le_refl _) hlen (cur := ds.toArray) (by rw [List.size_toArray, hdl, h2]) (by simp)
          obtain ⟨β', hs'⟩ := h.buf hX (below_alloc w _) hown hd
          refine wp_run (u := .slice (some ⟨w.heap.size, 0, none⟩) len len) (w' := w.alloc (.cells ds.toArray te)) ?_ (by rw [hdst]; exact hN β' _ _ hs')
          unfold execOp
          simp only [hop]
          exact run_v h3
        · cases hs
      · -- make
        rename_i t l c
        split at hs
        · rename_i te τ x0 y0 hte hty hl hc
          obtain ⟨x, rfl⟩ : ∃ x : Int, x = x0 := ⟨x0, rfl⟩
          obtain ⟨y, rfl⟩ : ∃ y : Int, y = y0 := ⟨y0, rfl⟩
          split at hs
          · rename_i hb
            cases hs
            simp only [allP_append] at hp
            obtain ⟨⟨hp1, hp2⟩, h0, hxy, hy⟩ := hp
            have hy : y ≤ 1000000000 := hy
            have h0 : 0 ≤ x := h0
            have hxy : x ≤ y := hxy
            simp only [Bool.and_eq_true, Nat.ble_eq] at hb
            have hz : 0 < τ.size := by simpa using hb.2
            have hL := strip_rep (h.ops l) hp1
            have hC := strip_rep (h.ops c) hp2
            rw [hl] at hL
            rw [hc] at hC
            have hL := RepV.int hL
            have hC := RepV.int hC
            obtain ⟨te', hu, _, hlay⟩ := hK.t.lay _ _ hty
            have : te = te' := by have := hK.u _ _ hte; rw [hu] at this; cases this; rfl
            subst this
            obtain ⟨i, z, hi, hsz, hzv, hzc, hby⟩ := hlay.info
            have hzs : z.cells.size = τ.size := by rw [hzc]; simp [zcells_length τ hlay.data]
            have hbytes : (i.bytes : Int) * y ≤ 281474976710656 := by
              have hb1 : i.bytes ≤ 100000 := by omega
              have hb2 : i.bytes * (y : Int).toNat ≤ 100000 * 1000000000 := Nat.mul_le_mul hb1 (by omega)
              have hb3 : ((i.bytes * (y : Int).toNat : Nat) : Int) = (i.bytes : Int) * y := by
                rw [Int.natCast_mul, Int.toNat_of_nonneg (by omega)]
              omega
            have hrun := run_make (P := P) w t te i z hu hi hzv .i64 .i64 x y h0 hxy hbytes (by omega)
            have hcells : madeCells z.cells ((y : Int).toNat * i.size) = (List.replicate (y : Int).toNat (zcells τ)).flatten.toArray := by
              have := zeros_range z.cells (by omega) (y : Int).toNat
              unfold madeCells
              rw [hsz, ← hzs, this, hzc]
            rw [hcells] at hrun
            have hz1 := repL_zeros (w := w) (O := OSet X E β) hlay.data (x : Int).toNat
            have hlz := hz1.len (fun x c => RepC.len _ x c)
            have hown := ownRep_new (β := β) (te := te) hO hz hz1 (len := (x : Int).toNat) (cap := (y : Int).toNat) (by simp) (by omega) (by simp only [maxLen]; omega) (cur := (List.replicate (y : Int).toNat (zcells τ)).flatten.toArray)
              (by simp [zcells_length τ hlay.data]) (by
                have e1 : (y : Int).toNat = (x : Int).toNat + ((y : Int).toNat - (x : Int).toNat) := by omega
                rw [e1, ← List.replicate_append_replicate, List.flatten_append]
                simp only [List.toList_toArray]
                rw [List.take_left])
            obtain ⟨β', hs'⟩ := h.buf hX (below_alloc w _) hown hd
            refine wp_run (u := .slice (some ⟨w.heap.size, 0, none⟩) (x : Int).toNat (y : Int).toNat) ?_ (by rw [hdst]; exact hN β' _ _ hs')
            unfold execOp
            simp only [hop, hL, hC]
            exact run_v hrun
          · cases hs
        · cases hs
      · -- append
        rename_i args ts
        split at hs
        · rename_i s x t u ha ht
          split at hs
          · rename_i htu
            have : t = u := Nat.eq_of_beq_eq_true htu
            subst this
            have ea : args = #[s, x] := by rw [← Array.toList_inj, ha]
            have et : ts = #[t, t] := by rw [← Array.toList_inj, ht]
            subst ea; subst et
            obtain ⟨q, h1, rfl⟩ := preS_some hs
            simp only [allP_append] at hp
            have hS := strip_rep (h.ops s) hp.1.1
            have hXX := strip_rep (h.ops x) hp.1.2
            have erun : ∀ v' w', (Builtin.append_ #[t, t] o.type #[a.eval s, a.eval x]).run P w = .ok v' w' → (execOp a.eval o).run P w = .ok (.value v') w' := by
              intro v' w' hr
              unfold execOp
              simp [hop, resolve, invoke, builtin, hr]
            have src : ∀ {τ : Ty} {ys : List τ.T} {y : V}, coe (.slice τ) (dat E y) = some ys → RepV w (OSet X E β) β y.t y.x (a.eval x) → RepS w (fun _ => False) (RepC w (OSet X E β) τ) ys (a.eval x) := by
              intro τ ys y hy hr
              rcases coe_slice hy with hd0 | ⟨hd0, rfl⟩
              · exact src_rep h.own hd0 hr
              · have : y = ⟨.lit, .slice none 0 0⟩ := by
                  obtain ⟨yt, yx⟩ := y
                  cases yt <;> simp only [dat] at hd0 <;> first | exact hd0 | (cases hd0; done) | (split at hd0 <;> cases hd0)
                rw [this] at hr
                have e : a.eval x = .slice none 0 0 := hr
                exact .inl ⟨rfl, none, 0, e, by simp⟩
            unfold appV at h1
            split at h1
            · rename_i te hte
              split at h1
              · rename_i τ0 i hsv
                split at h1
                · rename_i te' τ xs hob
                  split at h1
                  · rename_i hb
                    split at h1 <;> first | (cases h1; done) | skip
                    rename_i ys h2
                    cases h1
                    simp only [Bool.and_eq_true, Nat.ble_eq] at hb
                    obtain ⟨⟨hb1, hb2⟩, hb3⟩ := hb
                    have : te = te' := Nat.eq_of_beq_eq_true hb2
                    subst this
                    rw [hsv] at hS
                    have eS : a.eval s = β i := hS
                    obtain ⟨te2, hu, _, hlay⟩ := hK.t.is hb1
                    have : te = te2 := by have := hK.u _ _ hte; rw [hu] at this; cases this; rfl
                    subst this
                    obtain ⟨v', w', k1, k2, k3, k4⟩ := append_run (P := P) hu hlay hb3 o.type (Nat.zero_le _) (h.own i _ hob) (fun g hg => .inr ⟨i, _, hob, hg⟩) (src h2 hXX) hp.2
                    obtain ⟨β', hs'⟩ := h.redo hob rfl k2 (bv := v') k3 (t := τ) (o' := .buf te τ _) (fun O _ hO => k4 O hO) hd
                    refine wp_run (erun v' w' (by rw [eS]; exact k1)) (by rw [hdst]; exact hN β' _ _ hs')
                  · cases h1
                · cases h1
              · split at h1
                · rename_i hnil
                  split at h1
                  · rename_i τ hty
                    split at h1
                    · rename_i hb
                      split at h1 <;> first | (cases h1; done) | skip
                      rename_i ys h2
                      cases h1
                      simp only [Bool.and_eq_true, Nat.ble_eq] at hb
                      have hz : 0 < τ.size := by simpa using hb.2
                      have eS : a.eval s = .slice none 0 0 := by
                        revert hS hnil
                        generalize (strip (evO F s)).2 = sv
                        intro hS hnil
                        unfold isNil at hnil
                        split at hnil
                        · exact hS
                        · cases hnil
                      obtain ⟨te2, hu, _, hlay⟩ := hK.t.lay _ _ hty
                      have : te = te2 := by have := hK.u _ _ hte; rw [hu] at this; cases this; rfl
                      subst this
                      have hnilOwn : OwnRep w (OSet X E β) β w.heap.size (.slice none 0 0) (.buf te τ []) := ⟨[], rfl, World.ownsRow_nil w _ te τ.size, hz⟩
                      obtain ⟨v', w', k1, k2, k3, k4⟩ := append_run (P := P) hu hlay hb.1 o.type (Nat.le_refl _) hnilOwn (fun g hg => by cases hg) (src h2 hXX) (by have hq : ys.length ≤ 1000000000 := hp.2; simpa using hq)
                      have hk : Below w.heap.size w w' := ⟨k2.os, k2.tape, k2.output, k2.size, fun g hg => k2.block g hg (by simp [blockOf])⟩
                      have hown := k4 (fun g => OSet X E β g ∨ blockOf v' = some g) fun g hg hg' => by
                        rcases hg' with h3 | h3
                        · exact h3
                        · rcases k3 g h3 with h4 | h4
                          · cases h4
                          · omega
                      obtain ⟨β', hs'⟩ := h.buf hX hk hown hd
                      refine wp_run (erun v' w' (by rw [eS]; exact k1)) (by rw [hdst]; exact hN β' _ _ hs')
                    · cases h1
                  · cases h1
                · cases h1
            · cases h1
          · cases hs
        · cases hs
      · -- a call
        rename_i x args ts
        split at hs <;> first | (cases hs; done) | skip
        rename_i f cs hcal
        split at hs <;> first | (cases hs; done) | skip
        rename_i p c xs h1
        have h2 := hs
        have hops : ∀ x ∈ o.op.operands, RepV w (OSet X E β) β (evO F x).t (evO F x).x (a.eval x) := fun x _ => h.ops x
        split at h2
        · rename_i hown0
          split at h2
          · cases h2
          · rename_i hh
            cases h2
            refine callV_wp hK.c (hX.2.2 w h.bel) hO h.own hop hcal h1 hp hops fun v w' hb hr => ?_
            rw [hdst]
            simp only [hown0] at hr
            have hr' : RepV w' (fun g => c.fl = false ∧ OSet X E β g) β c.res (c.out xs) v := resRel_repV _ _ _ hr
            have hr2 : RepV w' (OSet X E β) β c.res (c.out xs) v := by
              cases hfl : c.fl with
              | true => exact repV_flat hfl hr'
              | false =>
                rw [hfl] at hr'
                exact RepV.keep ⟨Nat.le_refl _, fun _ _ _ => rfl, fun g _ h => ⟨rfl, h⟩⟩ _ _ _ hr'
            refine hN β _ _ (h.puts hb hr2 ?_ hd)
            show bnd _ _ ≤ _
            rw [bnd_hand _ _ (by simpa using hh)]
            exact Nat.zero_le _
        · rename_i te hown0
          split at h2
          · rename_i τ ys hres hout
            cases h2
            have hnf : c.fl = false := by unfold Ctr.fl; rw [hres]; rfl
            refine callV_wp hK.c (hX.2.2 w h.bel) hO h.own hop hcal h1 hp hops fun v w' hb hr => ?_
            rw [hdst]
            simp only [hown0] at hr
            have hr' : OwnRep w' (fun g => (c.fl = false ∧ OSet X E β g) ∨ blockOf v = some g) β w.heap.size v (.buf te τ ys) := by
              revert hr
              generalize c.out xs = x at hout ⊢
              revert x
              rw [hres]
              intro x hx hr
              cases hx
              exact hr
            have hr2 : OwnRep w' (fun g => OSet X E β g ∨ blockOf v = some g) β w.heap.size v (.buf te τ ys) := hr'.keep ⟨Nat.le_refl _, fun _ _ _ => rfl, fun g _ h => h.imp (fun h => ⟨hnf, h⟩) id⟩ fun _ _ => rfl
            obtain ⟨β', hs'⟩ := h.buf hX hb hr2 hd
            exact hN β' _ _ hs'
          · cases h2
      · -- the others
        split at hs <;> first | (cases hs; done) | skip
        rename_i p t x h1
        have h2 := hs
        split at h2
        · rename_i hh
          cases h2
          have hops : ∀ x ∈ o.op.operands, RepV w (OSet X E β) β (evO F x).t (evO F x).x (a.eval x) := fun x _ => h.ops x
          obtain ⟨u, w', k1, k2, k3⟩ := pOp_yields (P := P) (o := o) hK.t hO h.own (by rw [hop]; exact h1) hp hops
          refine wp_run k1 ?_
          rw [hdst]
          exact hN β _ _ (h.puts k2 k3 (pOp_bound h1 hh h.hb (fun i o ho => ⟨h.lt i o ho, h.hE i o ho⟩) fun t τ ht => (hK.t.lay t τ ht).data) hd)
        · cases h2
    · cases hs
end
end Go.Proofs.YtbbeldmcdjjnbaaDoor
namespace Go.Proofs.YtbbeldmcdjjnbaaDoor
open Go Go.RowKit
set_option linter.unusedSimpArgs false
set_option linter.unusedVariables false

/-! ### marks turn, cells stay -/
structure KeepsM (w w' : World) : Prop where
  size : w.heap.size ≤ w'.heap.size
  block : ∀ (g : Nat) cs ty fz, w.heap[g]? = some (.cells cs ty fz) → ∃ fz', w'.heap[g]? = some (.cells cs ty fz')
  maps : ∀ (g : Nat) ms ck, w.heap[g]? = some (.map ms ck) → w'.heap[g]? = some (.map ms ck)
theorem KeepsM.of_below {w w' : World} (h : Below w.heap.size w w') : KeepsM w w' :=
  ⟨h.size, fun g cs ty fz hg => ⟨fz, (h.block g (Array.getElem?_eq_some_iff.1 hg).1).trans hg⟩, fun g ms ck hg => (h.block g (Array.getElem?_eq_some_iff.1 hg).1).trans hg⟩
section
variable {w w' : World} {O : Nat → Prop} {β : Nat → Value}
theorem CellsAt.keepM {g off : Nat} {vs : List Value} (h : CellsAt w g off vs) (hk : KeepsM w w') : CellsAt w' g off vs := fun j u hu => by
  have h1 := h j u hu
  unfold World.cell? at h1 ⊢
  simp only at h1 ⊢
  cases ho : w.heap[g]? with
  | none => simp [ho] at h1
  | some o =>
    cases o <;> first | (simp [ho] at h1; done) | skip
    rename_i cs ty fz
    obtain ⟨fz', h2⟩ := hk.block g cs ty fz ho
    rw [h2]
    rw [ho] at h1
    exact h1
theorem RepS.keepM {α : Type} {R R' : α → List Value → Prop} {xs : List α} {v : Value} (h : RepS w O R xs v) (hk : KeepsM w w') (hr : ∀ x c, R x c → R' x c) : RepS w' O R' xs v := by
  rcases h with h | ⟨g, off, c, vs, h1, h2, h3, h4, h5, h6, h7, h8⟩
  · exact .inl h
  · exact .inr ⟨g, off, c, vs, h1, h2, h3, h4, Nat.lt_of_lt_of_le h5 hk.size, h6, h7.mono fun x _ c => hr x c, h8.keepM hk⟩
theorem RepC.keepM (hk : KeepsM w w') : ∀ (t : Ty) (x : t.T) (cs : List Value), RepC w O t x cs → RepC w' O t x cs := by
  intro t
  induction t with
  | pair a b iha ihb => rintro x cs ⟨c1, c2, h, h1, h2⟩; exact ⟨c1, c2, h, iha _ _ h1, ihb _ _ h2⟩
  | arr n t ih => rintro x cs ⟨h1, h2⟩; exact ⟨h1, h2.mono fun x _ c => ih x c⟩
  | slice t ih => rintro x cs ⟨v, h, h2⟩; exact ⟨v, h, h2.keepM hk ih⟩
  | _ => intro x cs h; exact h
theorem RepD.keepM (hk : KeepsM w w') {t : Ty} {x : t.T} {v : Value} (h : RepD w O t x v) : RepD w' O t x v := by
  unfold RepD at *
  split at h
  · rename_i ht
    obtain ⟨cs, h1, h2⟩ := h
    rw [if_pos ht]
    exact ⟨cs, h1, RepC.keepM hk _ _ _ h2⟩
  · rename_i ht
    rw [if_neg ht]
    exact RepC.keepM hk _ _ _ h
theorem RepTup.keepM (hk : KeepsM w w') : ∀ (t : Ty) (x : t.T) (vs : List Value), RepTup w O t x vs → RepTup w' O t x vs := by
  intro t
  induction t with
  | tup a b iha ihb => rintro x vs ⟨v, r, h, h1, h2⟩; exact ⟨v, r, h, h1.keepM hk, ihb _ _ h2⟩
  | unit => intro x vs h; exact h
  | _ => intro x vs h; exact absurd h (by simp [RepTup])
theorem RepP.keepM (hk : KeepsM w w') {t : Ty} {x : t.T} {v : Value} (h : RepP w O t x v) : RepP w' O t x v := by
  cases t <;> first | exact h.elim | skip
  obtain ⟨g, off, cs, h1, h2, h3, h4, h5⟩ := h
  exact ⟨g, off, cs, h1, Nat.lt_of_lt_of_le h2 hk.size, h3, RepC.keepM hk _ _ _ h4, h5.keepM hk⟩
theorem RepCap.keepM (hk : KeepsM w w') : ∀ (t : Ty) (x : t.T) (vs : List Value), RepCap w O t x vs → RepCap w' O t x vs := by
  intro t
  induction t with
  | tup a b iha ihb => rintro x vs ⟨v, r, h, h1, h2⟩; exact ⟨v, r, h, h1.keepM hk, ihb _ _ h2⟩
  | unit => intro x vs h; exact h
  | _ => intro x vs h; exact absurd h (by simp [RepCap])
theorem RepV.keepM (hk : KeepsM w w') : ∀ (t : Ty) (x : t.T) (v : Value), RepV w O β t x v → RepV w' O β t x v := by
  intro t
  induction t with
  | junk => intro x v h; exact h
  | lit => intro x v h; exact h
  | vptr t _ =>
    rintro x v ⟨g, off, cs, h1, h2, h3, h4, h5⟩
    exact ⟨g, off, cs, h1, Nat.lt_of_lt_of_le h2 hk.size, h3, RepC.keepM hk _ _ _ h4, h5.keepM hk⟩
  | cptr g off t _ =>
    rintro x v ⟨cs, h1, h2, h3, h4, h5⟩
    exact ⟨cs, h1, Nat.lt_of_lt_of_le h2 hk.size, h3, RepC.keepM hk _ _ _ h4, h5.keepM hk⟩
  | optr t _ => intro x v h; exact h
  | obuf t _ => intro x v h; exact h
  | tup a b _ _ => rintro x v ⟨vs, h1, h2⟩; exact ⟨vs, h1, RepTup.keepM hk _ _ _ h2⟩
  | cond t ih => intro x v h; exact ⟨fun hc => ih _ _ (h.1 hc), h.2⟩
  | clo f t _ => rintro x v ⟨vs, h1, h2⟩; exact ⟨vs, h1, RepCap.keepM hk _ _ _ h2⟩
  | mapL => rintro x v ⟨r, ms, ck, h1, h2, h3, h4, h5⟩; exact ⟨r, ms, ck, h1, Nat.lt_of_lt_of_le h2 hk.size, h3, hk.maps r ms ck h4, h5⟩
  | hptr => intro x v h; exact h
  | hcons a b iha ihb => rintro x v ⟨u, s, h1, h2, h3, h4⟩; exact ⟨u, s, h1, h2, iha _ _ h3, ihb _ _ h4⟩
  | _ => intro x v h; exact RepD.keepM hk h
theorem RepH.keepM (hk : KeepsM w w') : ∀ {vs : List V} {cs : List Value}, RepH w O β vs cs → RepH w' O β vs cs
  | [], _, h => h
  | v :: r, _, ⟨u, s, h1, h2, h3, h4⟩ => ⟨u, s, h1, h2, RepV.keepM hk _ _ _ h3, RepH.keepM hk h4⟩
end
section
variable {P : Program} {K : Kn} {w0 : World} {X : Ownr} {n : Nat} {σ : AS} {β : Nat → Value} {a : Act} {w : World} {R : Exit → Act → World → Prop} {N : Act → World → Prop}
/-- what lay below B lies, and the world has not shrunk -/
structure Marked (W w w' : World) : Prop where
  os : w'.os = w.os
  tape : w'.tape = w.tape
  output : w'.output = w.output
  size : w.heap.size ≤ w'.heap.size
  block : ∀ k, k < W.heap.size → w'.heap[k]? = w.heap[k]?
theorem Marked.trans' {W w w' : World} (h : Marked W w w') (k : Below W.heap.size W w) : Below W.heap.size W w' :=
  ⟨h.os.trans k.os, h.tape.trans k.tape, h.output.trans k.output, Nat.le_trans k.size h.size, fun i hi => (h.block i hi).trans (k.block i hi)⟩
theorem Marked.of {W w w' : World} {g : Nat} (h : w.grownBy w' (some g)) (hg : W.heap.size ≤ g) (hs : W.heap.size ≤ w.heap.size) : Marked W w w' :=
  ⟨h.os, h.tape, h.output, h.size, fun k hk => h.block k (by omega) (fun e => by cases e; omega)⟩
theorem mark_run {s e g k c : Nat} {cs : Array Value} {te : TypeId} {fz : Nat × Nat} (hs : P.underlying s = some (.slice e)) (he : P.underlying e = some (.int .u8)) (hg : w.heap[g]? = some (.cells cs te fz)) :
    ∃ w2, (convert s s (.slice (some ⟨g, 0, none⟩) k c)).run P w = .ok (.slice (some ⟨g, 0, none⟩) k c) w2 ∧ w.grownBy w2 (some g) ∧ KeepsM w w2 := by
  have hsh : w.shape? g = some (te, cs.size) := by unfold World.shape?; rw [hg]
  refine ⟨w.freeze ⟨g, cs.size, none⟩ 1, by simp [convert, run_underlying hs, run_underlying he, markStringish, hsh], ?_, ?_⟩
  · unfold World.freeze
    rw [if_neg (by decide)]
    refine ⟨rfl, rfl, rfl, by simp, fun j _ hj => ?_⟩
    show (w.heap.modify g _)[j]? = _
    rw [Array.getElem?_modify, if_neg (fun e => hj (by rw [e]))]
  · unfold World.freeze
    rw [if_neg (by decide)]
    refine ⟨by simp, fun j cs' ty' fz' hj => ?_, ?_⟩
    show ∃ fz2, (w.heap.modify g _)[j]? = _
    rw [Array.getElem?_modify]
    by_cases hgj : g = j
    · subst hgj
      rw [if_pos rfl, hj]
      exact ⟨_, rfl⟩
    · rw [if_neg hgj]
      exact ⟨fz', hj⟩
    · intro j ms ck hj
      show (w.heap.modify g _)[j]? = _
      rw [Array.getElem?_modify, if_neg (fun e => by subst e; rw [hg] at hj; cases hj)]
      exact hj
/-- a block that the call made and no longer owns is marked -/
theorem Sim.mark {w2 : World} (h : Sim w0 X n σ β a w) {g : Nat} (hk : KeepsM w w2) (hm : w.grownBy w2 (some g)) (hnew : w0.heap.size ≤ g ∨ X.R g) (hno : ∀ i o, Owns.get σ.E i = some o → blockOf (β i) ≠ some g) : Sim w0 X n σ β a w2 :=
  ⟨h.sz, h.df, h.bel.grown hm (fun g' e => by cases e; exact hnew), fun s => RepV.keepM hk _ _ _ (h.fr s), fun i o hi => by
    have hb : ∀ g', blockOf (β i) = some g' → w2.heap[g']? = w.heap[g']? := fun g' hg' => hm.block g' ((h.own i o hi).block_lt hg').2 fun e => hno i o hi (by rw [hg', e])
    have h1 := h.own i o hi
    cases o with
    | box t x =>
      obtain ⟨g', cs, ty, e, h2, h3, h4⟩ := h1
      exact ⟨g', cs, ty, e, h2, (hb g' (by rw [e]; rfl)).trans h3, RepC.keepM hk _ _ _ h4⟩
    | buf te t xs =>
      obtain ⟨cs, h2, h3, h4⟩ := h1
      refine ⟨cs, h2.mono fun x _ c => RepC.keepM hk _ _ _, ⟨h3.1, ?_⟩, h4⟩
      rcases h3.2 with h5 | ⟨g', cap, cur, e, h5, h6, h7⟩
      · exact .inl h5
      · exact .inr ⟨g', cap, cur, e, h5, (hb g' (by rw [e]; rfl)).trans h6, h7⟩
    | hbox vs =>
      obtain ⟨g', cs, ty, e, h2, h3, h4⟩ := h1
      exact ⟨g', cs, ty, e, h2, (hb g' (by rw [e]; rfl)).trans h3, h4.keepM hk⟩, h.new, h.inj, h.lt, h.fix, h.hb, h.hE⟩
theorem markS_wp (hK : KnOk P X.G K) (hX : X.Ok w0) (h : Sim w0 X n σ β a w) {o : Oper} {r : List Prop × AS} (hs : markS K n o σ = some r) (hp : allP r.1)
    (hN : ∀ β' a' w', Sim w0 X n r.2 β' a' w' → N a' w') : o.wp P a w N R := by
  obtain ⟨F, E, nx⟩ := σ
  simp only [markS] at hs
  split at hs <;> first | (cases hs; done) | skip
  rename_i s t x d hop hdst
  split at hs <;> first | (cases hs; done) | skip
  rename_i τ' i hx
  split at hs <;> first | (cases hs; done) | skip
  rename_i te xs hi
  split at hs <;> first | (cases hs; done) | skip
  rename_i hc
  cases hs
  simp only [Bool.and_eq_true] at hc
  have e := Nat.eq_of_beq_eq_true hc.1.1
  subst e
  have hd : d < n := by simpa using hc.2
  rw [allP_append] at hp
  have hpx : 0 < List.length xs := hp.2
  have hu := strip_rep (h.ops x) hp.1
  rw [hx] at hu
  have hu : a.eval x = β i := hu
  have hown := h.own i _ hi
  obtain ⟨cs, h1, h2, h3⟩ := hown
  obtain ⟨e, hut, _, he⟩ := hK.t.is hc.1.2
  rcases h2.2 with ⟨_, h4⟩ | ⟨g, cap, cur, hb, h5, h6, h7⟩
  · exact absurd h4 (by omega)
  · have hbl : blockOf (β i) = some g := by rw [hb]; rfl
    obtain ⟨w2, k1, k2, k3⟩ := mark_run (P := P) (k := xs.length) (c := cap) hut he.1 h6
    have hf := h.freeze hX hi
    have hf2 := hf.mark k3 k2 (h.new i _ g hi hbl) fun j oj hj hg => by
      rw [show Owns.get ((i, none) :: E) j = _ from Owns.get_cons ..] at hj
      by_cases hij : i = j
      · rw [if_pos hij] at hj; cases hj
      · rw [if_neg hij] at hj
        exact h.inj i j _ _ hi hj hij g hbl hg
    have hv : RepV w2 (OSet X ((i, none) :: E) β) β (.slice (.int .u8)) xs (β i) := by
      have hno : ∀ g, blockOf (β i) = some g → ¬ OSet X ((i, none) :: E) β g := fun g hg hg' => by
        rcases hg' with hg' | ⟨j, oj, h1, h2⟩
        · have h3 := hX.1 g hg'
          rcases h.new i _ g hi hg with h4 | h4
          · omega
          · exact h3.2 h4
        · rw [Owns.get_cons] at h1
          by_cases hs : i = j
          · rw [if_pos hs] at h1; cases h1
          · rw [if_neg hs] at h1
            exact h.inj i j _ _ hi h1 hs g hg h2
      have hview : RepD w (OSet X ((i, none) :: E) β) (.slice (.int .u8)) xs (β i) := (h.own i _ hi).view (fun g _ hg => by
        rcases hg with hg | ⟨j, oj, h1, h2⟩
        · exact .inl hg
        · rw [Owns.get_cons] at h1
          by_cases hs : i = j
          · rw [if_pos hs] at h1; cases h1
          · rw [if_neg hs] at h1; exact .inr ⟨j, oj, h1, h2⟩) hno
      exact RepV.keepM k3 _ _ _ (repD_repV hview)
    have hput := hf2.put (Below.refl _ _) (v := ⟨.slice (.int .u8), xs⟩) hv (Nat.zero_le _) hd
    refine wp_run (u := β i) (w' := w2) ?_ ?_
    · unfold execOp
      rw [hop]
      rw [← hb] at k1
      rw [← hu] at k1 ⊢
      exact run_v k1
    · rw [hdst]
      exact hN β _ _ hput
theorem cutS_wp (hK : KnOk P X.G K) (h : Sim w0 X n σ β a w) {o : Oper} {r : List Prop × AS} (hs : cutS K n o σ = some r) (hp : allP r.1)
    (hN : ∀ β' a' w', Sim w0 X n r.2 β' a' w' → N a' w') : o.wp P a w N R := by
  obtain ⟨F, E, nx⟩ := σ
  simp only [cutS] at hs
  split at hs <;> first | (cases hs; done) | skip
  split at hs <;> first | (cases hs; done) | skip
  rename_i s x hi d hop hdst
  split at hs <;> first | (cases hs; done) | skip
  rename_i τ' i j hx hj
  split at hs <;> first | (cases hs; done) | skip
  rename_i te τ xs hE
  split at hs <;> first | (cases hs; done) | skip
  rename_i hc
  cases hs
  simp only [Bool.and_eq_true] at hc
  have hd : d < n := by simpa using hc.2
  rw [allP_append] at hp
  obtain ⟨hp1, hj0, hj1⟩ := hp
  have hj1 : j ≤ ((List.length xs : Nat) : Int) := hj1
  have hu := strip_rep (h.ops x) hp1
  rw [hx] at hu
  have hu : a.eval x = β i := hu
  obtain ⟨k, hk⟩ := numV_rep hj (h.ops hi)
  obtain ⟨cs, h1, h2, h3⟩ := h.own i _ hE
  obtain ⟨te2, hut, _, hte⟩ := hK.t.is hc.1
  have hrun : ∀ A c, xs.length ≤ c → (Instr.sliceAt s (.slice A xs.length c) none (some (.int k j)) none).run P w = .ok (.slice (if c = 0 then A else A.map (·.add (0 * τ.size))) j.toNat c) w := by
    intro A c hc
    have hb := sliceBound_run (P := P) (w := w) (k := k) (i := j) (y := c) (c := .sliceAcap) hj0 (by omega)
    unfold Instr.sliceAt Instr.slice
    simp only [Sem.run_bind, run_underlying hut, Result.andThen_ok, hte.sizeOf, Sem.run_pure, Instr.sliceBounds, Option.isSome_none, Bool.false_eq_true, if_false, if_true, hb, Nat.sub_zero]
  have hlen : ∀ (y : List Value), RepL (RepC w (OSet X E β) τ) xs y → RepL (RepC w (OSet X E β) τ) (List.take j.toNat xs) (y.take (j.toNat * τ.size)) := fun y hy => hy.take (fun x c => RepC.len τ x c) j.toNat
  have hexec : ∀ v, (Instr.sliceAt s (β i) none (some (.int k j)) none).run P w = .ok v w → (execOp a.eval o).run P w = .ok (.value v) w := by
    intro v hv
    unfold execOp
    rw [hop]
    simp only [hu, hk, Option.map_some, Option.map_none]
    exact run_v hv
  rcases h2.2 with ⟨h4, h5⟩ | ⟨g, cap, cur, hb, h5, h6, h7, h8, h9, h10⟩
  · have hx0 : xs = [] := List.eq_nil_of_length_eq_zero h5
    subst hx0
    have hj2 : j = 0 := by have : j ≤ ((0 : Nat) : Int) := hj1; omega
    subst hj2
    obtain ⟨β', hs'⟩ := h.redo hE rfl (w' := w) ⟨rfl, rfl, rfl, Nat.le_refl _, fun _ _ _ => rfl⟩ (bv := .slice none 0 0) (o' := .buf te τ []) (fun g hg => by cases hg) (t := τ) (fun O _ hO => ⟨[], rfl, World.ownsRow_nil w _ te τ.size, h3⟩) hd
    refine wp_run (u := .slice none 0 0) (hexec _ (by rw [h4]; exact hrun none 0 (Nat.le_refl _))) ?_
    rw [hdst]
    exact hN β' _ _ hs'
  · have hcap : xs.length ≤ cap := h7
    have hm : (List.take j.toNat xs).length = j.toNat := by rw [List.length_take]; omega
    have hmul : j.toNat * τ.size ≤ xs.length * τ.size := Nat.mul_le_mul_right _ (by omega)
    have hrow : w.ownsRow 0 te τ.size (.slice (some ⟨g, 0, none⟩) j.toNat cap) (List.take j.toNat xs).length (cs.take (j.toNat * τ.size)) := by
      refine ⟨?_, .inr ⟨g, cap, cur, by rw [hm], Nat.zero_le _, h6, by omega, h8, h9, ?_⟩⟩
      · rw [hm, List.length_take, h2.1]
        omega
      · rw [hm, ← h10, List.take_take, Nat.min_eq_left hmul]
    obtain ⟨β', hs'⟩ := h.redo hE rfl (w' := w) ⟨rfl, rfl, rfl, Nat.le_refl _, fun _ _ _ => rfl⟩ (bv := .slice (some ⟨g, 0, none⟩) j.toNat cap) (o' := .buf te τ (List.take j.toNat xs)) (fun g' hg => .inl (by rw [hb]; exact hg)) (t := τ)
      (fun O _ hO => ⟨cs.take (j.toNat * τ.size), (hlen cs h1).mono fun x _ c hc => RepC.keep ⟨Nat.le_refl _, fun _ _ _ => rfl, fun g hg hg' => hO g hg hg'⟩ _ _ _ hc, hrow, h3⟩) hd
    refine wp_run (u := .slice (some ⟨g, 0, none⟩) j.toNat cap) (hexec _ ?_) ?_
    · rw [hb, hrun _ _ hcap]
      congr 2
      split
      · rfl
      · simp [Addr.add]
    · rw [hdst]
      exact hN β' _ _ hs'
end
end Go.Proofs.YtbbeldmcdjjnbaaDoor
namespace Go.Proofs.YtbbeldmcdjjnbaaDoor
open Go Go.RowKit
set_option linter.unusedSimpArgs false
set_option linter.unusedVariables false

section
variable {P : Program} {K : Kn} {w0 : World} {X : Ownr} {n : Nat} {σ : AS} {β : Nat → Value} {a : Act} {w : World} {N : Act → World → Prop} {R : Exit → Act → World → Prop} {ops : Array Oper}

def asB : Value → Option Bool
  | .bool b => some b
  | _ => none
theorem yielded_of {j dj : Nat} (hj : (ops[j]?).bind (·.dst) = some dj) (hd : dj < a.tmps.size) : yielded ops a.tmps j = asB (a.tmps.getD dj undef) := by
  unfold yielded
  rw [hj]
  simp only [Option.bind_some]
  have : a.tmps[dj]? = some (a.tmps.getD dj undef) := by simp [Array.getD, hd]
  rw [this]
  cases a.tmps.getD dj undef <;> rfl
theorem gcond_wanted {O : Nat → Prop} {v : V} {want c : Bool} (h : gcond v want = some c) {u : Value} (hr : RepV w O β v.t v.x u) : (asB u == some want) = c := by
  obtain ⟨t, x⟩ := v
  unfold gcond at h
  split at h
  · rename_i b hb
    obtain ⟨rfl, hb⟩ := V.mk.inj hb
    cases hb
    cases h
    have hr : RepV w O β .bool c u := hr
    have := RepV.bool hr
    subst this
    cases c <;> rfl
  · rename_i b hb
    obtain ⟨rfl, hb⟩ := V.mk.inj hb
    cases hb
    cases h
    have hr : RepV w O β .bool b u := hr
    have := RepV.bool hr
    subst this
    cases b <;> rfl
  · rename_i x1 x2 hb
    obtain ⟨rfl, hb⟩ := V.mk.inj hb
    cases hb
    cases h
    have hr : RepV w O β (.cond .bool) (x1, x2) u := hr
    cases x1 with
    | true =>
      have := RepV.bool (hr.1 rfl)
      subst this
      cases x2 <;> rfl
    | false =>
      have := hr.2 rfl
      subst this
      rfl
  · rename_i x1 x2 hb
    obtain ⟨rfl, hb⟩ := V.mk.inj hb
    cases hb
    cases h
    have hr : RepV w O β (.cond .bool) (x1, x2) u := hr
    cases x1 with
    | true =>
      have := RepV.bool (hr.1 rfl)
      subst this
      cases x2 <;> rfl
    | false =>
      have := hr.2 rfl
      subst this
      rfl
  · cases h
theorem condV_rep {O : Nat → Prop} {c : Bool} {v : V} {u : Value} (h : c = true → RepV w O β v.t v.x u) (h' : c = false → u = undef) : RepV w O β (condV c v).t (condV c v).x u := by
  obtain ⟨t, x⟩ := v
  cases t <;> first
    | exact ⟨h, h'⟩
    | skip
  rename_i t
  have e : condV c ⟨.cond t, x⟩ = ⟨.cond t, (c && x.1, x.2)⟩ := rfl
  rw [e]
  refine ⟨fun hc => ?_, fun hc => ?_⟩
  · have hc : (c && x.1) = true := hc
    simp only [Bool.and_eq_true] at hc
    exact (h hc.1).1 hc.2
  · have hc : (c && x.1) = false := hc
    cases hcc : c with
    | false => exact h' hcc
    | true => rw [hcc, Bool.true_and] at hc; exact (h hcc).2 hc
theorem gOp_wp {G : World → Prop} (hK : KnOk P G K) (hG : G w) {O : Nat → Prop} {B : Nat} (hO : ∀ g, O g → g < w.heap.size) {E : Owns} (hown : ∀ i o, Owns.get E i = some o → OwnRep w O β B (β i) o) {F : Frame} {o : Oper} {r : List Prop × V} (h : gOp K n ops E F o = some r) (hp : allP r.1) (hsz : a.tmps.size = n)
    (hops : ∀ t ∈ seesT ops o, RepV w O β (Frame.get F t).t (Frame.get F t).x (a.tmps.getD t undef))
    (hN : ∀ u w', Below w.heap.size w w' → RepV w' O β r.2.t r.2.x u → N (a.put o.dst u) w') :
    if Region.wanted o (yielded ops a.tmps) then o.wp P a w N R ∨ (o.asks P a w ∧ LetsOut R) else N (a.put o.dst undef) w := by
  have hop2 : ∀ x ∈ o.op.operands, RepV w O β (evO F x).t (evO F x).x (a.eval x) := fun x hx => evO_rep fun s hs => hops s (by
    unfold seesT
    refine List.mem_append.2 (.inl (List.mem_filterMap.2 ⟨x, by simpa using hx, ?_⟩))
    rw [hs])
  unfold gOp at h
  cases hg : o.guard with
  | none =>
    rw [hg] at h
    simp only at h
    split at h <;> first | (cases h; done) | skip
    rename_i p t x h1
    have h2 := h
    split at h2
    · cases h2
      simp only [Region.wanted, hg, if_true]
      exact .inl (cOp_wp hK.t hK.c hG hO hown h1 hp hop2 hN)
    · cases h2
  | some g =>
    obtain ⟨j, want⟩ := g
    rw [hg] at h
    simp only at h
    split at h
    · rename_i dj hdj
      split at h
      · rename_i hlt
        split at h <;> first | (cases h; done) | skip
        rename_i c p v h1 h3
        have h4 := h
        split at h4 <;> first | (cases h4; done) | skip
        · have h4 := impV_some h4
          subst h4
          have hlt' : dj < n := by simpa using hlt
          have hrep := hops dj (by unfold seesT; rw [hg]; simp [hdj])
          have hw : Region.wanted o (yielded ops a.tmps) = c := by
            unfold Region.wanted
            rw [hg]
            simp only
            rw [yielded_of hdj (by rw [hsz]; exact hlt')]
            exact gcond_wanted h1 hrep
          rw [hw]
          cases hc : c with
          | true =>
            rw [if_pos rfl]
            refine .inl (cOp_wp hK.t hK.c hG hO hown h3 (allP_impP hp hc) hop2 fun u w' hb hr => hN u w' hb (condV_rep (fun _ => hr) (fun h0 => ?_)))
            rw [hc] at h0; cases h0
          | false =>
            rw [if_neg (by simp)]
            exact hN undef w (Below.refl _ _) (condV_rep (fun h0 => by rw [hc] at h0; cases h0) fun _ => rfl)
      · cases h
    · cases h
theorem condV_bound {c : Bool} {v : V} : (condV c v).bound = v.bound := by
  obtain ⟨t, x⟩ := v
  cases t <;> rfl
theorem cOp_bound {E : Owns} {F : Frame} {op : Op} {p : List Prop} {t : Ty} {x : t.T} (h1 : cOp K.T K.Q K.C E F op = some (p, ⟨t, x⟩)) (hh : (!t.hand || handsOn op) = true) {m : Nat} (hF : ∀ s, (Frame.get F s).bound ≤ m) (hE : ∀ i o, Owns.get E i = some o → i < m ∧ o.under m) (hT : ∀ t τ, tget K.T t = some τ → τ.data = true) : bnd t x ≤ m := by
  cases hr : t.hand with
  | false => rw [bnd_hand _ _ hr]; exact Nat.zero_le _
  | true =>
    rw [hr] at hh
    have hp : pOp K.T K.Q E F op = some (p, ⟨t, x⟩) := by
      unfold cOp at h1
      split at h1
      · cases hh
      · exact h1
    exact pOp_bound hp (by show (!t.hand || handsOn op) = true; rw [hr]; exact hh) hF hE hT
theorem gOp_bound {E : Owns} {F : Frame} {o : Oper} {r : List Prop × V} (h : gOp K n ops E F o = some r) {m : Nat} (hF : ∀ s, (Frame.get F s).bound ≤ m) (hE : ∀ i o, Owns.get E i = some o → i < m ∧ o.under m) (hT : ∀ t τ, tget K.T t = some τ → τ.data = true) : r.2.bound ≤ m := by
  unfold gOp at h
  split at h
  · split at h <;> first | (cases h; done) | skip
    rename_i p t x h1
    have h2 := h
    split at h2
    · rename_i hh
      cases h2
      exact cOp_bound h1 hh hF hE hT
    · cases h2
  · split at h
    · split at h
      · split at h <;> first | (cases h; done) | skip
        rename_i c p v h1 h3
        have h4 := h
        split at h4 <;> first | (cases h4; done) | skip
        rename_i hh
        have h4 := impV_some h4
        subst h4
        show (condV c v).bound ≤ m
        rw [condV_bound]
        obtain ⟨t, x⟩ := v
        exact cOp_bound h3 hh hF hE hT
      · cases h
    · cases h
/-- cells of a block of the call's own are written -/
theorem storeCellsAt {t : TypeId} {τ : Ty} (ht : Lay P τ (.inl t)) {g off : Nat} {u : Value} {cur : List Value} {ty : TypeId} {w : World} (hg : w.heap[g]? = some (.cells cur.toArray ty (0, 0))) (hl : u.cells.toList.length = τ.size) (hf : off + τ.size ≤ cur.length) (h1 : ∀ y ∈ u.cells.toList, y.oneCell' = true) :
    (Instr.storeAt t (.pointer (some ⟨g, off, none⟩)) u).run P w = .ok () (w.setRow g (over cur off u.cells.toList).toArray) := by
  have hrun := run_storeCells_at P g off ty u.cells.toList 0 cur.toArray w hg (by rw [hl]; simpa using hf) h1
  simp only [Nat.add_zero] at hrun
  unfold Instr.storeAt Instr.sureAddr storeVar
  simp only [Sem.run_bind, Sem.run_pure, Result.andThen_ok, ht.sizeOf]
  rw [if_neg (by simp only [ne_eq, Decidable.not_not]; rw [← hl]; simp)]
  exact hrun
theorem RepH.one {O : Nat → Prop} {β : Nat → Value} {w : World} : ∀ {vs : List V} {cs : List Value}, RepH w O β vs cs → ∀ y ∈ cs, y.oneCell' = true
  | [], _, h, y, hy => by
    have h : _ = [] := h
    subst h
    cases hy
  | v :: r, _, ⟨u, s, e, h2, h3, h4⟩, y, hy => by
    subst e
    rcases List.mem_cons.1 hy with rfl | hy
    · exact h2
    · exact RepH.one h4 y hy
theorem leavesT_bound : ∀ (t : Ty) (x : t.T), t.leafy = true → ∀ v, v ∈ leavesT t x → v.bound ≤ bnd t x := by
  intro t
  induction t with
  | pair a b iha ihb =>
    intro x hl v hv
    have hl : ((Ty.pair a b).data && (Ty.pair a b).noArr) = true := hl
    simp only [Ty.data, Ty.noArr, Bool.and_eq_true] at hl
    rcases List.mem_append.1 hv with hv | hv
    · have := iha x.1 (by cases a <;> first | exact Bool.and_eq_true_iff.2 ⟨hl.1.1, hl.2.1⟩ | (cases hl.1.1; done)) v hv
      rwa [bnd_data _ _ hl.1.1] at this
    · have := ihb x.2 (by cases b <;> first | exact Bool.and_eq_true_iff.2 ⟨hl.1.2, hl.2.2⟩ | (cases hl.1.2; done)) v hv
      rwa [bnd_data _ _ hl.1.2] at this
  | unit => intro x _ v hv; cases hv
  | hcons a b _ ihb =>
    intro x hl v hv
    show v.bound ≤ max (bnd a x.1) (bnd b x.2)
    rcases List.mem_cons.1 hv with rfl | hv
    · exact Nat.le_max_left _ _
    · exact Nat.le_trans (ihb x.2 hl v hv) (Nat.le_max_right _ _)
  | arr n t _ =>
    intro x hl
    have hl : ((Ty.arr n t).data && (Ty.arr n t).noArr) = true := hl
    simp [Ty.noArr] at hl
  | _ =>
    intro x _ v hv
    have hv := List.mem_singleton.1 hv
    subst hv
    exact Nat.le_refl _
theorem evC_bound (v : Value) : (evC v).bound = 0 := by
  have := evO_bound (F := []) (m := 0) (fun s => Nat.le_refl _) (.const v)
  exact Nat.eq_zero_of_le_zero this
theorem leavesV_bound {E : Owns} {v : V} {ls : List V} (h : leavesV E v = some ls) : ∀ l, l ∈ ls → l.bound ≤ v.bound := by
  obtain ⟨t, x⟩ := v
  unfold leavesV at h
  split at h
  · rename_i y he
    unfold leavesLit at h
    split at h
    · split at h
      · cases h
        intro l hl
        obtain ⟨c, _, rfl⟩ := List.mem_map.1 hl
        rw [evC_bound]
        exact Nat.zero_le _
      · cases h
    · cases h
    · cases h
      intro l hl
      rw [List.mem_singleton.1 hl]
      exact Nat.zero_le _
  · rename_i t' j he
    obtain ⟨rfl, he⟩ := V.mk.inj he
    cases he
    split at h
    · cases h
      intro l hl
      rw [List.mem_singleton.1 hl]
      exact Nat.le_refl _
    · cases h
  · rename_i h1 h2 he
    obtain ⟨rfl, he⟩ := V.mk.inj he
    cases he
    split at h
    · rename_i hl
      cases h
      exact leavesT_bound _ _ hl
    · cases h
theorem hStep_wp (hK : KnOk P X.G K) (hX : X.Ok w0) (h : Sim w0 X n σ β a w) {o : Oper} {r : List Prop × AS} (hs : hStep K n o σ = some r) (hp : allP r.1)
    (hN : ∀ β' a' w', Sim w0 X n r.2 β' a' w' → N a' w') : o.wp P a w N R := by
  obtain ⟨F, E, nx⟩ := σ
  simp only [hStep] at hs
  split at hs
  · rename_i t p x hop hdst
    split at hs <;> first | (cases hs; done) | skip
    rename_i i k hq
    split at hs <;> first | (cases hs; done) | skip
    rename_i vs τ hob hτ
    split at hs <;> first | (cases hs; done) | skip
    rename_i ws hw
    cases hs
    simp only [allP_append] at hp
    have hpp := strip_rep (h.ops p) hp.1
    rw [hq] at hpp
    obtain ⟨g, h2, h3⟩ := hpp
    have hl := hK.t.lay _ _ hτ
    have hx := strip_rep (h.ops x) hp.2
    unfold putH at hw
    split at hw <;> first | (cases hw; done) | skip
    rename_i ls hls
    split at hw <;> first | (cases hw; done) | skip
    rename_i hc
    cases hw
    simp only [Bool.and_eq_true, Nat.beq_eq, Nat.ble_eq] at hc
    have hlr := leavesV_rep (B := 0) h.own hls hx
    obtain ⟨g', cs, ty, e1, e2, e3, e4⟩ := h.own _ _ hob
    have hgg : g' = g := by rw [e1] at h2; simpa [blockOf] using h2
    subst hgg
    have hvl := e4.len
    have hll := hlr.len
    have hrun := storeCellsAt (P := P) hl (off := k) e3 (by rw [← hll]; exact hc.1) (by rw [← hvl]; exact hc.2) hlr.one
    unfold Oper.wp
    have e : (execOp a.eval o).run P w = .ok .skip (w.setRow g' (over cs k (a.eval x).cells.toList).toArray) := by
      unfold execOp
      simp only [hop]
      rw [h3]
      simp [hrun]
    rw [e]
    show N (a.put o.dst undef) _
    rw [hdst]
    refine hN β a _ (h.write hob (by rw [h2]; exact grownBy_row w g' _) (fun hk => ?_) rfl ?_)
    · refine ⟨g', over cs k (a.eval x).cells.toList, ty, e1, e2, setRow_heap w g' cs.toArray _ ty _ e3, ?_⟩
      have h5 : RepH w (OSet X E β) β (vs.take k ++ ls ++ vs.drop (k + τ.size)) (over cs k (a.eval x).cells.toList) := by
        unfold over
        rw [← hll, hc.1]
        exact ((e4.take k).append hlr).append (e4.drop _)
      exact h5.keep hk
    · intro us e v hv
      cases e
      rcases List.mem_append.1 hv with hv | hv
      · rcases List.mem_append.1 hv with hv | hv
        · exact h.hE _ _ hob vs rfl v (List.mem_of_mem_take hv)
        · exact Nat.le_trans (leavesV_bound hls v hv) (Nat.le_trans (strip_bound _) (evO_bound h.hb x))
      · exact h.hE _ _ hob vs rfl v (List.mem_of_mem_drop hv)
  · rename_i t d hop hdst
    split at hs <;> first | (cases hs; done) | skip
    rename_i hc
    split at hs <;> first | (cases hs; done) | skip
    rename_i τ hτ
    split at hs <;> first | (cases hs; done) | skip
    rename_i hone
    cases hs
    simp only [Bool.and_eq_true] at hc
    have hd : d < n := by simpa using hc.2
    have hl := hK.t.lay _ _ hτ
    obtain ⟨i, z, hi, _, hz, hzc, _⟩ := hl.info
    have hrep : ∀ (w' : World) (O : Nat → Prop) (β' : Nat → Value) (l : List Value), l.all Value.oneCell' = true → RepH w' O β' (l.map evC) l := by
      intro w' O β' l
      induction l with
      | nil => intro _; exact rfl
      | cons c l ih =>
        intro hl
        simp only [List.all_cons, Bool.and_eq_true] at hl
        exact ⟨c, l, rfl, hl.1, evC_rep c, ih hl.2⟩
    obtain ⟨β', hs'⟩ := h.make hX (below_alloc w (.cells (zcells τ).toArray t)) (bv := .pointer (some ⟨w.heap.size, 0, none⟩)) (o := .hbox ((zcells τ).map evC)) (v := ⟨.hptr, (nx, 0)⟩) (u := .pointer (some ⟨w.heap.size, 0, none⟩)) (d := d)
      (fun O β' _ => ⟨w.heap.size, zcells τ, t, rfl, Nat.zero_le _, heap_alloc_new w _, hrep _ _ _ _ hone⟩) (fun g hg => by cases hg; exact Nat.le_refl _)
      (fun O β' hβ => ⟨w.heap.size, by show blockOf (β' nx) = _; rw [hβ]; rfl, rfl⟩) (Nat.le_refl _) hd (by
        intro us e v hv
        cases e
        obtain ⟨c, _, rfl⟩ := List.mem_map.1 hv
        rw [evC_bound]
        exact Nat.zero_le _)
    refine wp_run (u := .pointer (some ⟨w.heap.size, 0, none⟩)) (w' := w.alloc (.cells (zcells τ).toArray t)) ?_ (by rw [hdst]; exact hN β' _ _ hs')
    unfold execOp
    simp [hop, Instr.alloc, zeroValue, typeInfo, hi, hz, newVar, newRow, hzc]
  · rename_i t parts d hop hdst
    split at hs <;> first | (cases hs; done) | skip
    rename_i hc
    split at hs <;> first | (cases hs; done) | skip
    rename_i ta tb hτ
    cases hs
    simp only [Bool.and_eq_true] at hc
    have hd : d < n := by simpa using hc.1.2
    have hparts : parts = #[] := by
      have := hc.2
      rw [List.isEmpty_iff] at this
      rw [← Array.toList_inj, this]
    subst hparts
    have hl := hK.t.lay _ _ hτ
    obtain ⟨fs, h2, hinf, f, rr, h3, h4, h5, h6⟩ := hl
    obtain ⟨i, z, hi, hs', hz, hzc, _⟩ := hinf
    have hlr : Lay P (.pair ta tb) (.inr (fs.toList, 0)) := ⟨f, rr, h3, h4, h5, by simpa using h6⟩
    obtain ⟨places, h7, h8⟩ := places_ok _ _ _ hlr
    have hrun : (Instr.build t #[]).run P w = .ok (.agg (zcells (.pair ta tb)).toArray) w := by
      refine run_build w t #[] _ ?_
      unfold Program.built
      rw [hi, h2]
      simp only [hz, h7, hzc]
      rfl
    refine wp_run (u := .agg (zcells (.pair ta tb)).toArray) (w' := w) ?_ ?_
    · unfold execOp
      simp only [hop]
      exact run_v (by simpa using hrun)
    · rw [hdst]
      exact hN β _ _ (h.put (Below.refl _ _) (v := ⟨.lit, .agg (List.toArray (zcells (.pair ta tb)))⟩) rfl (Nat.zero_le _) hd)
  · cases hs
/-- one operation in the text's order -/
theorem resV_rep {O O' : Nat → Prop} {B : Nat} {v : Value} : ∀ {t : Ty} (z : t.T), t.flat = true → (t = .unit ∨ ResRel w O B none t z v) → RepV w O' β (resV t z).t (resV t z).x v := by
  intro t
  cases t with
  | unit => intro z _ _; exact trivial
  | slice τ => intro z h; cases h
  | bool => rintro z h (e | h2); cases e; exact repV_flat (t := .bool) h (h2 β)
  | int k => rintro z h (e | h2); cases e; exact repV_flat (t := .int k) h (h2 β)
  | str => rintro z h (e | h2); cases e; exact repV_flat (t := .str) h (h2 β)
  | pair a b => rintro z h (e | h2); cases e; exact repV_flat (t := .pair a b) h (h2 β)
  | arr n e => rintro z h (e | h2); cases e; exact repV_flat (t := .arr n e) h (h2 β)
  | tup a b => rintro z h (e | h2); cases e; exact repV_flat (t := .tup a b) h (h2 β)
  | _ => intro z h; cases h
theorem resV_bound {t : Ty} (z : t.T) (h : t.flat = true) (m : Nat) : (resV t z).bound ≤ m := by
  cases t <;> first | exact Nat.zero_le _ | cases h
theorem rStep_wp {C : List (FuncId × RCtr)} (hC : RsOk P X.G C) (hX : X.Ok w0) (h : Sim w0 X n σ β a w) {o : Oper} {r : List Prop × AS} (hs : rStep C n o σ = some r) (hp : allP r.1)
    (hN : ∀ β' a' w', Sim w0 X n r.2 β' a' w' → N a' w') : o.wp P a w N R := by
  unfold rStep at hs
  split at hs <;> first | (cases hs; done) | skip
  rename_i f args ts hop
  split at hs <;> first | (cases hs; done) | skip
  rename_i a0 as c hargs hc
  have h1 := h.frzs hX as
  split at hs
  rename_i F E nx hσ
  rw [hσ] at h1
  split at hs <;> first | (cases hs; done) | skip
  rename_i t0 p hev
  split at hs <;> first | (cases hs; done) | skip
  rename_i s x hbox
  split at hs <;> first | (cases hs; done) | skip
  rename_i hcond
  simp only [Bool.and_eq_true, Nat.beq_eq] at hcond
  obtain ⟨⟨⟨hoff, hd⟩, hfl⟩, hself⟩ := hcond
  split at hs <;> first | (cases hs; done) | skip
  rename_i y q xs hcoe hav
  split at hs <;> first | (cases hs; done) | skip
  rename_i F' hput
  cases hs
  simp only [allP_append] at hp
  obtain ⟨hq, hpre⟩ := hp
  obtain ⟨⟨hen, hcall⟩, hinv⟩ := hC f c hc
  have hv := h1.ops a0
  rw [show evO (AS.mk F E nx).F a0 = _ from hev] at hv
  obtain ⟨g, hg1, hg2⟩ := hv
  rw [hoff] at hg2
  obtain ⟨g', cs, ty, e1, _, e3, e4⟩ := h1.own _ _ hbox
  have hgg : g' = g := by rw [e1] at hg1; simpa [blockOf] using hg1
  subst hgg
  rcases coe_spec hcoe with hcs | ⟨hcs, _⟩
  case inr => cases hcs; exact absurd e4 id
  cases hcs
  have hOg : OSet X E β g' := .inr ⟨_, _, hbox, by rw [e1]; rfl⟩
  have hset : (fun k => false = false ∧ OSet X E β k) = fun k => (OSet X E β k ∧ k ≠ g') ∨ k = g' := by
    funext k
    apply propext
    constructor
    · rintro ⟨_, hk⟩
      by_cases e : k = g'
      · exact .inr e
      · exact .inl ⟨hk, e⟩
    · rintro (⟨hk, _⟩ | rfl)
      · exact ⟨rfl, hk⟩
      · exact ⟨rfl, hOg⟩
  have hset2 : OSet X E β = fun k => (OSet X E β k ∧ k ≠ g') ∨ k = g' := by
    rw [← hset]
    funext k
    simp
  have hvs : RepVs w (OSet X E β) β (as.map (evO F)) (as.map a.eval) := by
    refine ⟨by simp, fun i v hv => ?_⟩
    rw [List.getElem?_map] at hv
    obtain ⟨z, hz, rfl⟩ := Option.map_eq_some_iff.1 hv
    exact ⟨a.eval z, by rw [List.getElem?_map, hz]; rfl, h1.ops z⟩
  have ha := argsV_rep (B := 0) h1.own hd hav hq hvs.2 hvs.1
  rw [hset] at ha
  rw [hset2] at e4
  have hO : ∀ k, (OSet X E β k ∧ k ≠ g') → k < w.heap.size ∧ k ≠ g' := fun k hk => ⟨h1.hO hX k hk.1, hk.2⟩
  refine wp_enter hop hen ?_
  rw [hargs, List.map_cons, hg2]
  refine (hcall w _ g' cs ty _ xs _ hO e3 e4 ha hpre (hinv w g') (hX.2.2 w h.bel)).mono fun e w' hr => ?_
  obtain ⟨v, cs', ty', he, hk, hc', hrep, hres⟩ := hr
  refine ⟨v, he, ?_⟩
  have h2 := h1.write (w' := w') (o' := .box c.self (c.post y xs)) hbox ⟨hk.os, hk.tape, hk.output, hk.size, fun k hkl hne => hk.block k hkl fun e => hne (by rw [e1, e]; rfl)⟩ (fun _ => ⟨g', cs', ty', e1, Nat.zero_le _, hc', by rw [hset2]; exact hrep⟩) rfl
  unfold putD at hput
  split at hput
  · rename_i d hdst
    split at hput <;> first | (cases hput; done) | skip
    rename_i hlt
    cases hput
    rw [hdst]
    have h3 := h2.put (Below.refl _ _) (resV_rep (O' := OSet X _ β) (β := β) _ hfl hres) (resV_bound _ hfl _) (by simpa using hlt : d < n)
    exact hN _ _ _ h3
  · rename_i hdst
    cases hput
    rw [hdst]
    exact hN _ _ _ h2
theorem aStep_wp (hK : KnOk P X.G K) (hX : X.Ok w0) (h : Sim w0 X n σ β a w) {o : Oper} {r : List Prop × AS} (hs : aStep K n ops o σ = some r) (hp : allP r.1)
    (hN : ∀ β' a' w', Sim w0 X n r.2 β' a' w' → N a' w') : if Region.wanted o (yielded ops a.tmps) then o.wp P a w N R ∨ (o.asks P a w ∧ LetsOut R) else N (a.put o.dst undef) w := by
  unfold aStep at hs
  split at hs
  · rename_i hg
    simp only [Region.wanted, hg, if_true]
    split at hs
    · rename_i r' hm
      cases hs
      exact .inl (markS_wp hK hX h hm hp hN)
    · split at hs
      · rename_i r' hm
        cases hs
        exact .inl (cutS_wp hK h hm hp hN)
      · split at hs
        · rename_i r' hm
          cases hs
          exact .inl (hStep_wp hK hX h hm hp hN)
        · split at hs
          · rename_i r' hm
            cases hs
            exact .inl (rStep_wp hK.r hX h hm hp hN)
          · exact .inl (doStep_wp hK hX (h.frzs hX _) hs hp hN)
  · split at hs
    · rename_i d F E nx hd
      split at hs
      · rename_i hlt
        split at hs <;> first | (cases hs; done) | skip
        rename_i p t x h1
        cases hs
        have hlt' : d < n := by simpa using hlt
        refine gOp_wp hK (hX.2.2 w h.bel) (h.hO hX) h.own h1 hp h.sz (fun t _ => h.fr t) fun u w' hb hr => ?_
        rw [hd]
        exact hN β _ _ (h.puts hb hr (gOp_bound h1 h.hb (fun i o ho => ⟨h.lt i o ho, h.hE i o ho⟩) fun t τ ht => (hK.t.lay t τ ht).data) hlt')
      · cases hs
    · cases hs
theorem aSeq_wp (hK : KnOk P X.G K) (hX : X.Ok w0) : ∀ (l : List Oper) {σ : AS} {β : Nat → Value} {a : Act} {w : World} {r : List Prop × AS}, Sim w0 X n σ β a w → aSeq K n ops l σ = some r → allP r.1 →
    (∀ β' a' w', Sim w0 X n r.2 β' a' w' → R .normal a' w') → wpList P ops R l a w
  | [], σ, β, a, w, r, h, hs, _, hR => by
    cases hs
    exact hR β a w h
  | o :: l, σ, β, a, w, r, h, hs, hp, hR => by
    simp only [aSeq] at hs
    split at hs <;> first | (cases hs; done) | skip
    rename_i p σ' h1
    obtain ⟨q, h3, rfl⟩ := preS_some hs
    simp only [allP_append] at hp
    exact aStep_wp hK hX h h1 hp.1 fun β' a' w' hs' => aSeq_wp hK hX l hs' h3 hp.2 hR
/-- a region in the text's order -/
theorem region_wp (hK : KnOk P X.G K) (hX : X.Ok w0) (h : Sim w0 X n σ β a w) {id : Nat} {r : List Prop × AS} (hs : aSeq K n ops ops.toList σ = some r) (hp : allP r.1)
    (hR : ∀ β' a' w', Sim w0 X n r.2 β' a' w' → R .normal a' w') : (Code.region id ops false).wp P R a w := by
  refine wp_region ?_
  have := wpOps_eq_wpList (P := P) (ops := ops) (Q := R) ops.toList 0 (fun j => by simp)
  rw [List.range_eq_range']
  simp only [Array.length_toList] at this
  rw [this]
  exact aSeq_wp hK hX _ h hs hp hR
end
end Go.Proofs.YtbbeldmcdjjnbaaDoor
