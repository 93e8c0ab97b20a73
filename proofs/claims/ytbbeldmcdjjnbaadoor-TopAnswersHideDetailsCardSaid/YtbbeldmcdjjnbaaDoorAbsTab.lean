/-
  How a program's types lie: a table that gives typed plain types to a program's type numbers, and what reading a part, a variable, a field comes to. No program is read here.
  Integers as typed plain values: what each operation on integers yields, and that the model's operation yields what stands for it. No program is read here.
  == on typed plain values: it decides equality. No program is read here.
-/
import Derived.Test.YtbbeldmcdjjnbaaDoorAbsSim
import Derived.Deep.MidRow
import Derived.Laws.BytesArg
import Derived.Laws.IdiomStrings
import Derived.Laws.StructEq
import Derived.ChangeKeysEq
namespace Go.Proofs.YtbbeldmcdjjnbaaDoor
open Go Go.RowKit
set_option linter.unusedSimpArgs false
set_option linter.unusedVariables false

def zcells : Ty → List Value
  | .bool => [.bool false]
  | .int k => [.int k 0]
  | .str => [.string ⟨#[]⟩]
  | .slice _ => [.slice none 0 0]
  | .pair a b => zcells a ++ zcells b
  | .arr n t => (List.replicate n (zcells t)).flatten
  | _ => []
def zeroI : (k : IntKind) → IntT k
  | .u8 => (0 : UInt8)
  | .u16 => (0 : BitVec 16)
  | .u32 => (0 : BitVec 32)
  | .u64 => (0 : BitVec 64)
  | .i8 => (0 : Int)
  | .i16 => (0 : Int)
  | .i32 => (0 : Int)
  | .i64 => (0 : Int)
def zeroX : (t : Ty) → t.T
  | .bool => false
  | .int k => zeroI k
  | .str => []
  | .unit => ()
  | .pair a b => (zeroX a, zeroX b)
  | .arr n t => List.replicate n (zeroX t)
  | .slice _ => []
  | .junk => ()
  | .lit => .nilFunc
  | .vptr t => zeroX t
  | .cptr _ _ t => zeroX t
  | .optr t => ⟨0, t, .here⟩
  | .obuf _ => (0 : Nat)
  | .tup a b => (zeroX a, zeroX b)
  | .cond t => (false, zeroX t)
  | .clo _ t => zeroX t
  | .mapL => ([] : List (Value × Value))
  | .hptr => ((0 : Nat), (0 : Nat))
  | .hcons a b => (zeroX a, zeroX b)
def Ty.data : Ty → Bool
  | .bool | .int _ | .str | .unit => true
  | .pair a b => a.data && b.data
  | .arr _ t => t.data
  | .slice t => t.data
  | _ => false
theorem encI_zero (k : IntKind) : encI k (zeroI k) = 0 := by cases k <;> rfl
theorem repC_zero (w : World) (O : Nat → Prop) : ∀ t : Ty, t.data = true → RepC w O t (zeroX t) (zcells t) := by
  intro t
  induction t with
  | bool => intro _; rfl
  | int k => intro _; show _ = _; rw [show zeroX (.int k) = zeroI k from rfl, encI_zero]; rfl
  | str => intro _; exact ⟨rfl, by simp [zeroX]⟩
  | unit => intro _; rfl
  | pair a b iha ihb => intro h; simp [Ty.data] at h; exact ⟨_, _, rfl, iha h.1, ihb h.2⟩
  | arr n t ih =>
    intro h
    refine ⟨by simp [zeroX], ?_⟩
    simp only [zeroX, zcells]
    induction n with
    | zero => rfl
    | succ n ihn => exact ⟨_, _, rfl, ih h, ihn h⟩
  | slice t ih => intro _; exact ⟨_, rfl, .inl ⟨rfl, none, 0, rfl, by simp⟩⟩
  | _ => intro h; simp [Ty.data] at h

/-- the row of a type: size, zero, bytes -/
def Info (P : Program) (t : TypeId) (τ : Ty) : Prop := ∃ i z, P.info? t = some i ∧ i.size = τ.size ∧ i.zero = some z ∧ z.cells = (zcells τ).toArray ∧ i.bytes ≤ 24 * τ.size
/-- how a type lies -/
def Lay (P : Program) : Ty → TypeId ⊕ (List Field × Nat) → Prop
  | .bool, .inl t => P.underlying t = some .bool ∧ Info P t .bool
  | .int k, .inl t => P.underlying t = some (.int k) ∧ Info P t (.int k)
  | .str, .inl t => P.underlying t = some .string ∧ Info P t .str
  | .unit, .inl t => ∃ fs, P.underlying t = some (.struct fs) ∧ Info P t .unit ∧ fs.toList = []
  | .unit, .inr m => m.1 = []
  | .pair a b, .inl t => ∃ fs, P.underlying t = some (.struct fs) ∧ Info P t (.pair a b) ∧ ∃ f r, fs.toList = f :: r ∧ f.offset = 0 ∧ Lay P a (.inl f.type) ∧ Lay P b (.inr (r, a.size))
  | .pair a b, .inr m => ∃ f r, m.1 = f :: r ∧ f.offset = m.2 ∧ Lay P a (.inl f.type) ∧ Lay P b (.inr (r, m.2 + a.size))
  | .arr n e, .inl t => ∃ te, P.underlying t = some (.array n te) ∧ Info P t (.arr n e) ∧ Lay P e (.inl te)
  | .slice e, .inl t => ∃ te, P.underlying t = some (.slice te) ∧ Info P t (.slice e) ∧ Lay P e (.inl te)
  | _, _ => False

/-- the scalar zeros are the same -/
def sameZ : Value → Value → Bool
  | .bool a, .bool b => a == b
  | .int k a, .int l b => decide (k = l) && decide (a = b)
  | .string a, .string b => a.data.toList == b.data.toList
  | .slice none n c, .slice none m d => Nat.beq n m && Nat.beq c d
  | _, _ => false
theorem sameZ_eq {a b : Value} (h : sameZ a b = true) : a = b := by
  cases a <;> cases b <;> simp_all [sameZ]
  · rename_i x y
    cases x; cases y; simp_all
  · rename_i x n c y m d
    cases x <;> cases y <;> simp_all [sameZ]
def sameZs : List Value → List Value → Bool
  | [], [] => true
  | a :: r, b :: s => sameZ a b && sameZs r s
  | _, _ => false
theorem sameZs_eq : ∀ {a b : List Value}, sameZs a b = true → a = b
  | [], [], _ => rfl
  | a :: r, b :: s, h => by
    simp [sameZs] at h
    rw [sameZ_eq h.1, sameZs_eq h.2]
  | [], _ :: _, h => by simp [sameZs] at h
  | _ :: _, [], h => by simp [sameZs] at h
def infoB (P : Program) (t : TypeId) (τ : Ty) : Bool :=
  match P.info? t with
  | some i => Nat.beq i.size τ.size && Nat.ble i.bytes (24 * τ.size) && (match i.zero with | some z => sameZs z.cells.toList (zcells τ) | none => false)
  | none => false
theorem infoB_ok {P : Program} {t : TypeId} {τ : Ty} (h : infoB P t τ = true) : Info P t τ := by
  unfold infoB at h
  split at h
  · rename_i i hi
    simp only [Bool.and_eq_true, Nat.beq_eq, Nat.ble_eq] at h
    obtain ⟨⟨h1, h2⟩, h3⟩ := h
    split at h3
    · rename_i z hz
      exact ⟨i, z, hi, h1, hz, by rw [← sameZs_eq h3], h2⟩
    · cases h3
  · cases h
def layB (P : Program) : Ty → TypeId ⊕ (List Field × Nat) → Bool
  | .bool, .inl t => (match P.underlying t with | some .bool => true | _ => false) && infoB P t .bool
  | .int k, .inl t => (match P.underlying t with | some (.int l) => decide (k = l) | _ => false) && infoB P t (.int k)
  | .str, .inl t => (match P.underlying t with | some .string => true | _ => false) && infoB P t .str
  | .unit, .inl t => (match P.underlying t with | some (.struct fs) => (match fs.toList with | [] => true | _ => false) | _ => false) && infoB P t .unit
  | .unit, .inr m => (match m.1 with | [] => true | _ => false)
  | .pair a b, .inl t => (match P.underlying t with | some (.struct fs) => (match fs.toList with | f :: r => Nat.beq f.offset 0 && layB P a (.inl f.type) && layB P b (.inr (r, a.size)) | _ => false) | _ => false) && infoB P t (.pair a b)
  | .pair a b, .inr m => (match m.1 with | f :: r => Nat.beq f.offset m.2 && layB P a (.inl f.type) && layB P b (.inr (r, m.2 + a.size)) | _ => false)
  | .arr n e, .inl t => (match P.underlying t with | some (.array k te) => Nat.beq n k && layB P e (.inl te) | _ => false) && infoB P t (.arr n e)
  | .slice e, .inl t => (match P.underlying t with | some (.slice te) => layB P e (.inl te) | _ => false) && infoB P t (.slice e)
  | _, _ => false
theorem layB_ok {P : Program} : ∀ (τ : Ty) (m : TypeId ⊕ (List Field × Nat)), layB P τ m = true → Lay P τ m := by
  intro τ
  induction τ with
  | bool =>
    rintro (t | m) h
    · simp only [layB, Bool.and_eq_true] at h
      refine ⟨?_, infoB_ok h.2⟩
      have h1 := h.1
      split at h1
      · assumption
      · cases h1
    · cases h
  | int k =>
    rintro (t | m) h
    · simp only [layB, Bool.and_eq_true] at h
      refine ⟨?_, infoB_ok h.2⟩
      have h1 := h.1
      split at h1
      · rename_i l hl
        simp at h1
        rw [h1]; exact hl
      · cases h1
    · cases h
  | str =>
    rintro (t | m) h
    · simp only [layB, Bool.and_eq_true] at h
      refine ⟨?_, infoB_ok h.2⟩
      have h1 := h.1
      split at h1
      · assumption
      · cases h1
    · cases h
  | unit =>
    rintro (t | m) h
    · simp only [layB, Bool.and_eq_true] at h
      have h1 := h.1
      split at h1
      · rename_i fs hfs
        refine ⟨fs, hfs, infoB_ok h.2, ?_⟩
        split at h1
        · assumption
        · cases h1
      · cases h1
    · simp only [layB] at h
      show m.1 = []
      split at h
      · assumption
      · cases h
  | pair a b iha ihb =>
    rintro (t | m) h
    · simp only [layB, Bool.and_eq_true] at h
      have h1 := h.1
      split at h1
      · rename_i fs hfs
        split at h1
        · rename_i f r hfr
          simp only [Bool.and_eq_true, Nat.beq_eq] at h1
          exact ⟨fs, hfs, infoB_ok h.2, f, r, hfr, h1.1.1, iha _ h1.1.2, ihb _ h1.2⟩
        · cases h1
      · cases h1
    · simp only [layB] at h
      split at h
      · rename_i f r hfr
        simp only [Bool.and_eq_true, Nat.beq_eq] at h
        exact ⟨f, r, hfr, h.1.1, iha _ h.1.2, ihb _ h.2⟩
      · cases h
  | arr n e ih =>
    rintro (t | m) h
    · simp only [layB, Bool.and_eq_true] at h
      have h1 := h.1
      split at h1
      · rename_i k te hk
        simp only [Bool.and_eq_true, Nat.beq_eq] at h1
        rw [← h1.1] at hk
        exact ⟨te, hk, infoB_ok h.2, ih _ h1.2⟩
      · cases h1
    · cases h
  | slice e ih =>
    rintro (t | m) h
    · simp only [layB, Bool.and_eq_true] at h
      have h1 := h.1
      split at h1
      · rename_i te hk
        exact ⟨te, hk, infoB_ok h.2, ih _ h1⟩
      · cases h1
    · cases h
  | _ => intro m h; cases m <;> cases h

section
variable {P : Program} {w : World} {O : Nat → Prop}
theorem Lay.info {τ : Ty} {t : TypeId} (h : Lay P τ (.inl t)) : Info P t τ := by
  cases τ <;> first
    | exact h.2
    | (obtain ⟨_, _, h, _⟩ := h; exact h)
    | exact absurd h (by simp [Lay])
theorem Lay.data : ∀ {τ : Ty} {m : TypeId ⊕ (List Field × Nat)}, Lay P τ m → τ.data = true := by
  intro τ
  induction τ with
  | pair a b iha ihb =>
    rintro (t | m) h
    · obtain ⟨_, _, _, f, r, _, _, h1, h2⟩ := h
      simp [Ty.data, iha h1, ihb h2]
    · obtain ⟨f, r, _, _, h1, h2⟩ := h
      simp [Ty.data, iha h1, ihb h2]
  | arr n e ih =>
    rintro (t | m) h
    · obtain ⟨_, _, _, h1⟩ := h; simp [Ty.data, ih h1]
    · exact absurd h (by simp [Lay])
  | slice e ih =>
    rintro (t | m) h
    · obtain ⟨_, _, _, h1⟩ := h; simp [Ty.data, ih h1]
    · exact absurd h (by simp [Lay])
  | bool => intro _ _; rfl
  | int => intro _ _; rfl
  | str => intro _ _; rfl
  | unit => intro _ _; rfl
  | _ => intro m h; cases m <;> exact absurd h (by simp [Lay])
theorem Lay.sizeOf {τ : Ty} {t : TypeId} (h : Lay P τ (.inl t)) : (Go.sizeOf t).run P w = .ok τ.size w := by
  obtain ⟨i, z, h1, h2, _⟩ := h.info
  simp [Go.sizeOf, typeInfo, h1, h2]
theorem Lay.cellSize {τ : Ty} {t : TypeId} (h : Lay P τ (.inl t)) : (P.info? t).map (·.size) = some τ.size := by
  obtain ⟨i, z, h1, h2, _⟩ := h.info
  simp [h1, h2]
theorem Lay.isAgg {τ : Ty} {t : TypeId} (h : Lay P τ (.inl t)) : (Go.isAgg t).run P w = .ok τ.isAgg w := by
  unfold Go.isAgg
  cases τ with
  | bool => rw [Sem.run_bind, run_underlying h.1]; rfl
  | int => rw [Sem.run_bind, run_underlying h.1]; rfl
  | str => rw [Sem.run_bind, run_underlying h.1]; rfl
  | unit => obtain ⟨_, h1, _⟩ := h; rw [Sem.run_bind, run_underlying h1]; rfl
  | pair => obtain ⟨_, h1, _⟩ := h; rw [Sem.run_bind, run_underlying h1]; rfl
  | arr => obtain ⟨_, h1, _⟩ := h; rw [Sem.run_bind, run_underlying h1]; rfl
  | slice => obtain ⟨_, h1, _⟩ := h; rw [Sem.run_bind, run_underlying h1]; rfl
  | _ => exact absurd h (by simp [Lay])
theorem RepC.single {τ : Ty} (hd : τ.isAgg = false) {x : τ.T} {cs : List Value} (h : RepC w O τ x cs) : ∃ u, cs = [u] := by
  have hl := RepC.len _ _ _ h
  have : τ.size = 1 := by cases τ <;> first | rfl | (cases hd; done) | (simp [RepC] at h; done)
  rw [this] at hl
  exact List.length_eq_one_iff.1 hl
/-- a part of an aggregate -/
theorem Lay.part {τ : Ty} {t : TypeId} (h : Lay P τ (.inl t)) {x : τ.T} {cs : List Value} {k : Nat} (hr : RepC w O τ x ((cs.drop k).take τ.size)) :
    ∃ u, (Go.part t cs.toArray k).run P w = .ok u w ∧ RepD w O τ x u := by
  unfold Go.part
  simp only [Sem.run_bind, h.isAgg, Result.andThen_ok]
  cases hd : τ.isAgg with
  | true =>
    simp only [if_true, Sem.run_bind, h.sizeOf, Result.andThen_ok, Sem.run_pure]
    refine ⟨_, rfl, (RepD.agg hd).2 ⟨_, ?_, hr⟩⟩
    simp only [List.extract_toArray, Value.agg.injEq, List.extract_eq_take_drop]
    congr 1
    simp
  | false =>
    obtain ⟨u, hu⟩ := RepC.single hd hr
    have hk : cs[k]? = some u := by
      have h1 : ((cs.drop k).take τ.size)[0]? = some u := by rw [hu]; rfl
      rw [List.getElem?_take] at h1
      split at h1
      · simpa using h1
      · cases h1
    refine ⟨u, ?_, (RepD.scalar hd).2 (hu ▸ hr)⟩
    simp [hk]
/-- a variable is read -/
theorem Lay.loadVar {τ : Ty} {t : TypeId} (h : Lay P τ (.inl t)) {x : τ.T} {cs : List Value} {g off : Nat} (hr : RepC w O τ x cs) (hc : CellsAt w g off cs) :
    ∃ u, (Go.loadVar t ⟨g, off, none⟩).run P w = .ok u w ∧ RepD w O τ x u := by
  unfold Go.loadVar
  simp only [Sem.run_bind, h.isAgg, Result.andThen_ok]
  have hl := RepC.len _ _ _ hr
  cases hd : τ.isAgg with
  | true =>
    have h2 := run_loadCells_list (P := P) w ⟨g, off, none⟩ cs (fun j v hv => by rw [Addr.add_mid]; exact hc j v hv)
    rw [hl] at h2
    simp only [if_true, Sem.run_bind, h.sizeOf, Result.andThen_ok, h2, Sem.run_pure]
    exact ⟨_, rfl, (RepD.agg hd).2 ⟨_, rfl, hr⟩⟩
  | false =>
    obtain ⟨u, rfl⟩ := RepC.single hd hr
    refine ⟨u, ?_, (RepD.scalar hd).2 hr⟩
    have := hc 0 u rfl
    simp [load, Sem.run, show w.cell? ⟨g, off, none⟩ = some u from this]
theorem Lay.loadAt {τ : Ty} {t : TypeId} (h : Lay P τ (.inl t)) {x : τ.T} {cs : List Value} {g off : Nat} (hr : RepC w O τ x cs) (hc : CellsAt w g off cs) :
    ∃ u, (Instr.loadAt t (.pointer (some ⟨g, off, none⟩))).run P w = .ok u w ∧ RepD w O τ x u := by
  obtain ⟨u, h1, h2⟩ := h.loadVar hr hc
  exact ⟨u, by simp [Instr.loadAt, Instr.sureAddr, h1], h2⟩

/-- the n-th field -/
def fieldV : Nat → (t : Ty) → t.T → Option V
  | 0, .pair a _, x => some ⟨a, x.1⟩
  | n + 1, .pair _ b, x => fieldV n b x.2
  | _, _, _ => none
def fieldOff : Nat → Ty → Nat
  | n + 1, .pair a b => a.size + fieldOff n b
  | _, _ => 0
theorem fieldV_spec : ∀ (n : Nat) (τ : Ty) (x : τ.T) (v : V) (fs : List Field) (off : Nat) (cs : List Value), fieldV n τ x = some v → Lay P τ (.inr (fs, off)) → RepC w O τ x cs →
    ∃ f, fs[n]? = some f ∧ f.offset = off + fieldOff n τ ∧ Lay P v.t (.inl f.type) ∧ RepC w O v.t v.x ((cs.drop (fieldOff n τ)).take v.t.size)
  | 0, .pair a b, x, v, fs, off, cs, h, hl, hr => by
    cases h
    obtain ⟨f, r, h1, h2, h3, h4⟩ := hl
    obtain ⟨c1, c2, rfl, h5, h6⟩ := hr
    simp only at h1 h2
    subst h1
    refine ⟨f, rfl, by simp [fieldOff, h2], h3, ?_⟩
    have := RepC.len _ _ _ h5
    simp [fieldOff, ← this, h5]
  | n + 1, .pair a b, x, v, fs, off, cs, h, hl, hr => by
    obtain ⟨f, r, h1, h2, h3, h4⟩ := hl
    obtain ⟨c1, c2, rfl, h5, h6⟩ := hr
    simp only at h1 h2
    subst h1
    obtain ⟨f', h7, h8, h9, h10⟩ := fieldV_spec n b x.2 v r _ c2 h h4 h6
    have := RepC.len _ _ _ h5
    refine ⟨f', by simpa using h7, by rw [h8]; simp [fieldOff, Nat.add_assoc], h9, ?_⟩
    rw [show fieldOff (n + 1) (.pair a b) = c1.length + fieldOff n b by simp [fieldOff, this], List.drop_length_add_append]
    exact h10
  | 0, .unit, _, _, _, _, _, h, _, _ => by cases h
  | _ + 1, .unit, _, _, _, _, _, h, _, _ => by cases h
  | n, .bool, _, _, _, _, _, h, _, _ => by cases n <;> cases h
  | n, .int _, _, _, _, _, _, h, _, _ => by cases n <;> cases h
  | n, .str, _, _, _, _, _, h, _, _ => by cases n <;> cases h
  | n, .arr _ _, _, _, _, _, _, h, _, _ => by cases n <;> cases h
  | n, .slice _, _, _, _, _, _, h, _, _ => by cases n <;> cases h
  | n, .junk, _, _, _, _, _, h, _, _ => by cases n <;> cases h
  | n, .lit, _, _, _, _, _, h, _, _ => by cases n <;> cases h
  | n, .vptr _, _, _, _, _, _, h, _, _ => by cases n <;> cases h
  | n, .cptr _ _ _, _, _, _, _, _, h, _, _ => by cases n <;> cases h
  | n, .optr _, _, _, _, _, _, h, _, _ => by cases n <;> cases h
  | n, .obuf _, _, _, _, _, _, h, _, _ => by cases n <;> cases h
  | n, .tup _ _, _, _, _, _, _, h, _, _ => by cases n <;> cases h
  | n, .cond _, _, _, _, _, _, h, _, _ => by cases n <;> cases h
theorem Lay.struct {n : Nat} {τ : Ty} {t : TypeId} (h : Lay P τ (.inl t)) {x : τ.T} {v : V} (hv : fieldV n τ x = some v) :
    ∃ fs, P.underlying t = some (.struct fs) ∧ Lay P τ (.inr (fs.toList, 0)) := by
  cases τ with
  | pair a b =>
    obtain ⟨fs, h1, _, f, r, h2, h3, h4, h5⟩ := h
    exact ⟨fs, h1, f, r, h2, h3, h4, by simpa using h5⟩
  | _ => cases n <;> cases hv
/-- a field of a struct that is a value -/
theorem Lay.field {n : Nat} {τ : Ty} {t : TypeId} (h : Lay P τ (.inl t)) {x : τ.T} {v : V} (hv : fieldV n τ x = some v) {u : Value} (hr : RepD w O τ x u) :
    ∃ y, (Instr.field t u n).run P w = .ok y w ∧ RepD w O v.t v.x y := by
  obtain ⟨fs, h1, h2⟩ := h.struct hv
  have hagg : τ.isAgg = true := by cases τ <;> first | rfl | (cases n <;> cases hv)
  obtain ⟨cs, rfl, hc⟩ := (RepD.agg hagg).1 hr
  obtain ⟨f, h3, h4, h5, h6⟩ := fieldV_spec n τ x v _ _ cs hv h2 hc
  rw [Nat.zero_add] at h4
  obtain ⟨y, h7, h8⟩ := h5.part h6
  refine ⟨y, ?_, h8⟩
  unfold Instr.field
  simp only [Sem.run_bind, run_underlying h1, Result.andThen_ok]
  rw [show fs[n]? = some f by simpa using h3]
  simp only [asAgg, Sem.run_bind, Sem.run_pure, Result.andThen_ok, h4]
  exact h7
end
end Go.Proofs.YtbbeldmcdjjnbaaDoor
namespace Go.Proofs.YtbbeldmcdjjnbaaDoor
open Go Go.RowKit
set_option linter.unusedSimpArgs false
set_option linter.unusedVariables false

def allP : List Prop → Prop
  | [] => True
  | [p] => p
  | p :: q :: r => p ∧ allP (q :: r)
theorem allP_cons {p : Prop} {r : List Prop} : allP (p :: r) ↔ p ∧ allP r := by
  cases r <;> simp [allP]
theorem allP_append {a b : List Prop} : allP (a ++ b) ↔ allP a ∧ allP b := by
  induction a with
  | nil => simp [allP]
  | cons p a ih => rw [List.cons_append, allP_cons, allP_cons, ih, and_assoc]
theorem allP_mem {a : List Prop} : allP a ↔ ∀ p ∈ a, p := by
  induction a with
  | nil => simp [allP]
  | cons p a ih =>
    rw [allP_cons, ih]
    constructor
    · rintro ⟨h1, h2⟩ q hq
      rcases List.mem_cons.1 hq with rfl | hq
      · exact h1
      · exact h2 q hq
    · exact fun h => ⟨h p (List.mem_cons_self ..), fun q hq => h q (List.mem_cons_of_mem _ hq)⟩

def inR (k : IntKind) (n : Int) : Prop := k.min ≤ n ∧ n ≤ k.max
theorem inR64 {n : Int} : inR .i64 n ↔ -9223372036854775808 ≤ n ∧ n ≤ 9223372036854775807 := by
  simp [inR, IntKind.min, IntKind.max, IntKind.signed, IntKind.bits]
theorem wrap_inR {k : IntKind} {n : Int} (h : inR k n) : k.wrap n = n := by
  unfold inR IntKind.min IntKind.max at h
  cases k <;> simp [IntKind.wrap, IntKind.signed, IntKind.bits] at h ⊢ <;> omega
theorem wrap_u8 (n : Int) : IntKind.u8.wrap n = n % 256 := by simp [IntKind.wrap, IntKind.bits, IntKind.signed]
theorem wrap_u16 (n : Int) : IntKind.u16.wrap n = n % 65536 := by simp [IntKind.wrap, IntKind.bits, IntKind.signed]
theorem wrap_u32 (n : Int) : IntKind.u32.wrap n = n % 4294967296 := by simp [IntKind.wrap, IntKind.bits, IntKind.signed]
theorem wrap_u64 (n : Int) : IntKind.u64.wrap n = n % 18446744073709551616 := by simp [IntKind.wrap, IntKind.bits, IntKind.signed]

abbrev arS (k : IntKind) (op : BinOp) (x y : Int) : Option (List Prop × Int) :=
  match op with
  | .add => some ([inR k (x + y)], x + y)
  | .sub => some ([inR k (x - y)], x - y)
  | .mul => some ([inR k (x * y)], x * y)
  | .quo => some ([y ≠ 0, inR k (x.tdiv y)], x.tdiv y)
  | .rem => some ([y ≠ 0], x.tmod y)
  | .or => some ([0 ≤ x, 0 ≤ y, x.toNat < 2 ^ (k.bits - 1), y.toNat < 2 ^ (k.bits - 1)], ((x.toNat ||| y.toNat : Nat) : Int))
  | .and => some ([0 ≤ x, 0 ≤ y, x.toNat < 2 ^ (k.bits - 1), y.toNat < 2 ^ (k.bits - 1)], ((x.toNat &&& y.toNat : Nat) : Int))
  | _ => none
abbrev ar8 (op : BinOp) (x y : UInt8) : Option (List Prop × UInt8) :=
  match op with
  | .add => some ([], x + y)
  | .sub => some ([], x - y)
  | .mul => some ([], x * y)
  | .quo => some ([y ≠ 0], x / y)
  | .rem => some ([y ≠ 0], x % y)
  | .and => some ([], x &&& y)
  | .or => some ([], x ||| y)
  | .xor => some ([], x ^^^ y)
  | _ => none
abbrev arB (w : Nat) (op : BinOp) (x y : BitVec w) : Option (List Prop × BitVec w) :=
  match op with
  | .add => some ([], x + y)
  | .sub => some ([], x - y)
  | .mul => some ([], x * y)
  | .quo => some ([y ≠ 0], x / y)
  | .rem => some ([y ≠ 0], x % y)
  | .and => some ([], x &&& y)
  | .or => some ([], x ||| y)
  | .xor => some ([], x ^^^ y)
  | _ => none
/-- arithmetic -/
def arI (op : BinOp) : (k : IntKind) → IntT k → IntT k → Option (List Prop × IntT k)
  | .u8, x, y => ar8 op x y
  | .u16, x, y => arB 16 op x y
  | .u32, x, y => arB 32 op x y
  | .u64, x, y => arB 64 op x y
  | .i8, x, y => arS .i8 op x y
  | .i16, x, y => arS .i16 op x y
  | .i32, x, y => arS .i32 op x y
  | .i64, x, y => arS .i64 op x y
/-- comparisons -/
def cmpI (op : BinOp) (a b : Int) : Option Bool :=
  match op with
  | .eql => some (a == b)
  | .neq => some (a != b)
  | .lss => some (decide (a < b))
  | .leq => some (decide (a ≤ b))
  | .gtr => some (decide (a > b))
  | .geq => some (decide (a ≥ b))
  | _ => none
/-- shifts -/
def shI (op : BinOp) : (k : IntKind) → IntT k → Int → Option (List Prop × IntT k)
  | .u8, x, n => match op with
    | .shl => some ([0 ≤ n], (UInt8.ofNat (UInt8.toNat x <<< n.toNat) : UInt8))
    | .shr => some ([0 ≤ n], (UInt8.ofNat (UInt8.toNat x >>> n.toNat) : UInt8))
    | _ => none
  | .u16, x, n => shB 16 op x n
  | .u32, x, n => shB 32 op x n
  | .u64, x, n => shB 64 op x n
  | .i8, _, _ => none
  | .i16, _, _ => none
  | .i32, _, _ => none
  | .i64, x, n => match op with
    | .shl => some ([0 ≤ n, n ≤ 63, inR .i64 ((x : Int) * 2 ^ n.toNat)], ((x : Int) * 2 ^ n.toNat : Int))
    | .shr => some ([0 ≤ n, n ≤ 63], ((x : Int) / 2 ^ n.toNat : Int))
    | _ => none
where
  shB (w : Nat) (op : BinOp) (x : BitVec w) (n : Int) : Option (List Prop × BitVec w) :=
    match op with
    | .shl => some ([0 ≤ n], x <<< n.toNat)
    | .shr => some ([0 ≤ n], x >>> n.toNat)
    | _ => none
/-- conversions -/
def cvI : (k l : IntKind) → IntT k → Option (List Prop × IntT l)
  | .u8, .u8, x => some ([], (x : UInt8))
  | .u16, .u8, x => some ([], (UInt8.ofNat (BitVec.toNat (w := 16) x) : UInt8))
  | .u32, .u8, x => some ([], (UInt8.ofNat (BitVec.toNat (w := 32) x) : UInt8))
  | .u64, .u8, x => some ([], (UInt8.ofNat (BitVec.toNat (w := 64) x) : UInt8))
  | .i64, .u8, x => some ([], (UInt8.ofNat ((x : Int) % 256).toNat : UInt8))
  | .u8, .u16, x => some ([], BitVec.ofNat 16 (UInt8.toNat x))
  | .u8, .u32, x => some ([], BitVec.ofNat 32 (UInt8.toNat x))
  | .u8, .u64, x => some ([], BitVec.ofNat 64 (UInt8.toNat x))
  | .u32, .u64, x => some ([], BitVec.ofNat 64 (BitVec.toNat (w := 32) x))
  | .u64, .u32, x => some ([], BitVec.ofNat 32 (BitVec.toNat (w := 64) x))
  | .u32, .u32, x => some ([], (x : BitVec 32))
  | .u64, .u64, x => some ([], (x : BitVec 64))
  | .i64, .u64, x => some ([], BitVec.ofInt 64 (x : Int))
  | .i64, .u32, x => some ([], BitVec.ofInt 32 (x : Int))
  | .u8, .i64, x => some ([], ((UInt8.toNat x : Nat) : Int))
  | .u16, .i64, x => some ([], ((BitVec.toNat (w := 16) x : Nat) : Int))
  | .u32, .i64, x => some ([], ((BitVec.toNat (w := 32) x : Nat) : Int))
  | .u64, .i64, x => some ([inR .i64 ((BitVec.toNat (w := 64) x : Nat) : Int)], ((BitVec.toNat (w := 64) x : Nat) : Int))
  | .i64, .i64, x => some ([inR .i64 (x : Int)], (x : Int))
  | _, _, _ => none
/-- ^x, -x -/
def unI (op : UnOp) : (k : IntKind) → IntT k → Option (List Prop × IntT k)
  | .u8, x => match op with | .xor => some ([], (~~~ (x : UInt8) : UInt8)) | _ => none
  | .u16, x => match op with | .xor => some ([], ~~~ (x : BitVec 16)) | _ => none
  | .u32, x => match op with | .xor => some ([], ~~~ (x : BitVec 32)) | _ => none
  | .u64, x => match op with | .xor => some ([], ~~~ (x : BitVec 64)) | _ => none
  | .i64, x => match op with | .neg => some ([inR .i64 (-(x : Int))], (-(x : Int) : Int)) | _ => none
  | _, _ => none

section
variable {P : Program} {w : World}
/-- the dispatch of two integers -/
def intBin (op : BinOp) (k : IntKind) (a b : Int) : Sem Value :=
  match op with
  | .add | .sub | .mul => Op.intArith op k a b
  | .quo | .rem => Op.intDiv op k a b
  | .and | .or | .xor | .andNot => Op.intBits op k a b
  | _ => Op.intCmp op a b
theorem binOp_int {op : BinOp} {t : TypeId} {k : IntKind} {a b : Int} (h1 : op ≠ .shl) (h2 : op ≠ .shr) : Go.binOp op t (.int k a) (.int k b) = intBin op k a b := by
  cases op <;> simp_all [Go.binOp, intBin]
theorem or_run {k : IntKind} {x y : Int} (h1 : 0 ≤ x) (h2 : 0 ≤ y) (h3 : x.toNat < 2 ^ (k.bits - 1)) (h4 : y.toNat < 2 ^ (k.bits - 1)) : (Op.intBits .or k x y).run P w = .ok (.int k ((x.toNat ||| y.toNat : Nat) : Int)) w := by
  have h5 : x.toNat ||| y.toNat < 2 ^ (k.bits - 1) := Nat.or_lt_two_pow h3 h4
  have hb : k.bits - 1 + 1 = k.bits := by cases k <;> rfl
  have h6 : 2 ^ (k.bits - 1) ≤ 2 ^ k.bits := Nat.pow_le_pow_right (by omega) (by omega)
  have ex : (BitVec.ofInt k.bits x).toNat = x.toNat := by rw [show x = ((x.toNat : Nat) : Int) by omega, BitVec.ofInt_natCast, BitVec.toNat_ofNat, Int.toNat_natCast, Nat.mod_eq_of_lt (by omega)]
  have ey : (BitVec.ofInt k.bits y).toNat = y.toNat := by rw [show y = ((y.toNat : Nat) : Int) by omega, BitVec.ofInt_natCast, BitVec.toNat_ofNat, Int.toNat_natCast, Nat.mod_eq_of_lt (by omega)]
  have hw : k.wrap ((x.toNat ||| y.toNat : Nat) : Int) = ((x.toNat ||| y.toNat : Nat) : Int) := by
    refine wrap_inR ?_
    unfold inR IntKind.min IntKind.max
    cases k <;> simp [IntKind.signed, IntKind.bits] at h5 ⊢ <;> omega
  simp only [Op.intBits, Sem.run_pure, BitVec.toNat_or, ex, ey, hw]
theorem and_run {k : IntKind} {x y : Int} (h1 : 0 ≤ x) (h2 : 0 ≤ y) (h3 : x.toNat < 2 ^ (k.bits - 1)) (h4 : y.toNat < 2 ^ (k.bits - 1)) : (Op.intBits .and k x y).run P w = .ok (.int k ((x.toNat &&& y.toNat : Nat) : Int)) w := by
  have h5 : x.toNat &&& y.toNat < 2 ^ (k.bits - 1) := Nat.and_lt_two_pow _ h4
  have hb : k.bits - 1 + 1 = k.bits := by cases k <;> rfl
  have h6 : 2 ^ (k.bits - 1) ≤ 2 ^ k.bits := Nat.pow_le_pow_right (by omega) (by omega)
  have ex : (BitVec.ofInt k.bits x).toNat = x.toNat := by rw [show x = ((x.toNat : Nat) : Int) by omega, BitVec.ofInt_natCast, BitVec.toNat_ofNat, Int.toNat_natCast, Nat.mod_eq_of_lt (by omega)]
  have ey : (BitVec.ofInt k.bits y).toNat = y.toNat := by rw [show y = ((y.toNat : Nat) : Int) by omega, BitVec.ofInt_natCast, BitVec.toNat_ofNat, Int.toNat_natCast, Nat.mod_eq_of_lt (by omega)]
  have hw : k.wrap ((x.toNat &&& y.toNat : Nat) : Int) = ((x.toNat &&& y.toNat : Nat) : Int) := by
    refine wrap_inR ?_
    unfold inR IntKind.min IntKind.max
    cases k <;> simp [IntKind.signed, IntKind.bits] at h5 ⊢ <;> omega
  simp only [Op.intBits, Sem.run_pure, BitVec.toNat_and, ex, ey, hw]
theorem arS_run {k : IntKind} {op : BinOp} {x y : Int} {vc : List Prop} {z : Int} (h : arS k op x y = some (vc, z)) (hv : allP vc) : (intBin op k x y).run P w = .ok (.int k z) w := by
  cases op <;> simp only [arS, Option.some.injEq, Prod.mk.injEq, reduceCtorEq] at h <;> obtain ⟨rfl, rfl⟩ := h <;> simp only [allP] at hv
  · simp [intBin, Op.intArith, wrap_inR hv]
  · simp [intBin, Op.intArith, wrap_inR hv]
  · simp [intBin, Op.intArith, wrap_inR hv]
  · simp [intBin, Op.intDiv, hv.1, wrap_inR hv.2]
  · simp [intBin, Op.intDiv, hv]
  · exact and_run hv.1 hv.2.1 hv.2.2.1 hv.2.2.2
  · exact or_run hv.1 hv.2.1 hv.2.2.1 hv.2.2.2
theorem ofInt_nat (w n : Nat) : BitVec.ofInt w (n : Int) = BitVec.ofNat w n := by simp
theorem bits8 (x y : UInt8) : (BitVec.ofInt 8 (x.toNat : Int)) = x.toBitVec := by rw [ofInt_nat, ← UInt8.toNat_toBitVec, BitVec.ofNat_toNat, BitVec.setWidth_eq]
theorem ar8_run {op : BinOp} {x y : UInt8} {vc : List Prop} {z : UInt8} (h : ar8 op x y = some (vc, z)) (hv : allP vc) : (intBin op .u8 (x.toNat : Int) (y.toNat : Int)).run P w = .ok (.int .u8 (z.toNat : Int)) w := by
  have hx := x.toNat_lt
  have hy := y.toNat_lt
  have ex : BitVec.ofInt 8 (x.toNat : Int) = x.toBitVec := bits8 x x
  have ey : BitVec.ofInt 8 (y.toNat : Int) = y.toBitVec := bits8 y y
  cases op <;> simp only [ar8, Option.some.injEq, Prod.mk.injEq, reduceCtorEq] at h <;> obtain ⟨rfl, rfl⟩ := h <;> simp only [allP] at hv
  · simp only [intBin, Op.intArith, Sem.run_pure, wrap_u8, UInt8.toNat_add]; congr 2
  · simp only [intBin, Op.intArith, Sem.run_pure, wrap_u8, UInt8.toNat_sub]; congr 2; omega
  · simp only [intBin, Op.intArith, Sem.run_pure, wrap_u8, UInt8.toNat_mul]; congr 2
  · have : (y.toNat : Int) ≠ 0 := by intro e; apply hv; apply UInt8.toNat.inj; simpa using e
    simp only [intBin, Op.intDiv, this, if_false, Sem.run_pure, wrap_u8, UInt8.toNat_div]
    congr 2
    rw [Int.tdiv_eq_ediv_of_nonneg (by omega)]
    have h1 : x.toNat / y.toNat < 256 := Nat.lt_of_le_of_lt (Nat.div_le_self _ _) hx
    rw [← Int.natCast_ediv]
    generalize x.toNat / y.toNat = q at *
    omega
  · have : (y.toNat : Int) ≠ 0 := by intro e; apply hv; apply UInt8.toNat.inj; simpa using e
    simp only [intBin, Op.intDiv, this, if_false, Sem.run_pure, UInt8.toNat_mod]
    congr 2
  · simp only [intBin, Op.intBits, IntKind.bits, ex, ey, Sem.run_pure, wrap_u8]
    congr 2
    have := (x &&& y).toNat_lt
    rw [Int.emod_eq_of_lt (by omega) (by have := (x.toBitVec &&& y.toBitVec).isLt; omega)]; rfl
  · simp only [intBin, Op.intBits, IntKind.bits, ex, ey, Sem.run_pure, wrap_u8]
    congr 2
    rw [Int.emod_eq_of_lt (by omega) (by have := (x.toBitVec ||| y.toBitVec).isLt; omega)]; rfl
  · simp only [intBin, Op.intBits, IntKind.bits, ex, ey, Sem.run_pure, wrap_u8]
    congr 2
    rw [Int.emod_eq_of_lt (by omega) (by have := (x.toBitVec ^^^ y.toBitVec).isLt; omega)]; rfl
theorem bv_wrap {m : Nat} (x : BitVec m) : ((x.toNat : Int)) % (2 ^ m : Int) = x.toNat := by
  have := x.isLt
  rw [Int.emod_eq_of_lt (by omega) (by exact_mod_cast this)]
theorem arB_run {k : IntKind} (hk : k.signed = false) {op : BinOp} {x y : BitVec k.bits} {vc : List Prop} {z : BitVec k.bits} (h : arB k.bits op x y = some (vc, z)) (hv : allP vc) :
    (intBin op k (x.toNat : Int) (y.toNat : Int)).run P w = .ok (.int k (z.toNat : Int)) w := by
  have hw : ∀ n, k.wrap n = n % (2 ^ k.bits : Int) := fun n => by simp [IntKind.wrap, hk]
  have ex : BitVec.ofInt k.bits (x.toNat : Int) = x := by rw [ofInt_nat]; simp
  have ey : BitVec.ofInt k.bits (y.toNat : Int) = y := by rw [ofInt_nat]; simp
  cases op <;> simp only [arB, Option.some.injEq, Prod.mk.injEq, reduceCtorEq] at h <;> obtain ⟨rfl, rfl⟩ := h <;> simp only [allP] at hv
  · simp only [intBin, Op.intArith, Sem.run_pure, hw, BitVec.toNat_add]; norm_cast
  · simp only [intBin, Op.intArith, Sem.run_pure, hw, BitVec.toNat_sub]
    congr 2
    have := y.isLt
    push_cast
    rw [Int.natCast_sub (by omega)]
    push_cast
    rw [show ((2:Int)^k.bits - (y.toNat : Int) + x.toNat) = (x.toNat - y.toNat) + (2:Int)^k.bits by omega, Int.add_emod_right]
  · simp only [intBin, Op.intArith, Sem.run_pure, hw, BitVec.toNat_mul]; norm_cast
  · have : (y.toNat : Int) ≠ 0 := by intro e; apply hv; apply BitVec.eq_of_toNat_eq; simpa using e
    simp only [intBin, Op.intDiv, this, if_false, Sem.run_pure, hw]
    congr 2
    rw [Int.tdiv_eq_ediv_of_nonneg (by omega), ← Int.natCast_ediv, ← BitVec.toNat_udiv]
    exact bv_wrap _
  · have : (y.toNat : Int) ≠ 0 := by intro e; apply hv; apply BitVec.eq_of_toNat_eq; simpa using e
    simp only [intBin, Op.intDiv, this, if_false, Sem.run_pure]
    congr 2
  · simp only [intBin, Op.intBits, ex, ey, Sem.run_pure, hw, bv_wrap]
  · simp only [intBin, Op.intBits, ex, ey, Sem.run_pure, hw, bv_wrap]
  · simp only [intBin, Op.intBits, ex, ey, Sem.run_pure, hw, bv_wrap]
theorem arI_ne {op : BinOp} {k : IntKind} {x y : IntT k} {r : List Prop × IntT k} (h : arI op k x y = some r) : op ≠ .shl ∧ op ≠ .shr := by
  constructor <;> (rintro rfl; cases k <;> cases h)
theorem arI_run {op : BinOp} {k : IntKind} {t : TypeId} {x y : IntT k} {vc : List Prop} {z : IntT k} (h : arI op k x y = some (vc, z)) (hv : allP vc) :
    (Go.binOp op t (.int k (encI k x)) (.int k (encI k y))).run P w = .ok (.int k (encI k z)) w := by
  rw [binOp_int (arI_ne h).1 (arI_ne h).2]
  cases k with
  | u8 => exact ar8_run h hv
  | u16 => exact arB_run (k := .u16) rfl h hv
  | u32 => exact arB_run (k := .u32) rfl h hv
  | u64 => exact arB_run (k := .u64) rfl h hv
  | i8 => exact arS_run h hv
  | i16 => exact arS_run h hv
  | i32 => exact arS_run h hv
  | i64 => exact arS_run h hv
theorem cmpI_run {op : BinOp} {k : IntKind} {t : TypeId} {a b : Int} {r : Bool} (h : cmpI op a b = some r) : (Go.binOp op t (.int k a) (.int k b)).run P w = .ok (.bool r) w := by
  cases op <;> simp only [cmpI, Option.some.injEq, reduceCtorEq] at h <;> subst h <;> simp [Go.binOp, Op.intCmp]
theorem shI_run {op : BinOp} {k l : IntKind} {t : TypeId} {x : IntT k} {n : Int} {vc : List Prop} {z : IntT k} (h : shI op k x n = some (vc, z)) (hv : allP vc) :
    (Go.binOp op t (.int k (encI k x)) (.int l n)).run P w = .ok (.int k (encI k z)) w := by
  have key : ∀ (k : IntKind) (hk : k.signed = false) (x : BitVec k.bits) (vc : List Prop) (z : BitVec k.bits), shI.shB k.bits op x n = some (vc, z) → allP vc →
      (Go.binOp op t (.int k (x.toNat : Int)) (.int l n)).run P w = .ok (.int k (z.toNat : Int)) w := by
    intro k hk x vc z h hv
    have hw : ∀ n, k.wrap n = n % (2 ^ k.bits : Int) := fun n => by simp [IntKind.wrap, hk]
    cases op <;> simp only [shI.shB, Option.some.injEq, Prod.mk.injEq, reduceCtorEq] at h <;> obtain ⟨rfl, rfl⟩ := h <;> simp only [allP] at hv
    · simp only [Go.binOp, Op.shift, Int.not_lt.mpr hv, if_false, hw, Sem.run_pure]
      congr 2
      rw [BitVec.toNat_shiftLeft, Nat.shiftLeft_eq]
      push_cast
      rcases Nat.le_total n.toNat k.bits with h1 | h1
      · rw [Nat.min_eq_left h1]
      · rw [Nat.min_eq_right h1]
        have e1 : (2:Int) ^ n.toNat = 2 ^ k.bits * 2 ^ (n.toNat - k.bits) := by rw [← Int.pow_add]; congr 1; omega
        rw [e1, Int.mul_emod_left, ← Int.mul_assoc, Int.mul_comm (x.toNat : Int), Int.mul_assoc, Int.mul_emod_right]
    · simp only [Go.binOp, Op.shift, Int.not_lt.mpr hv, if_false, Sem.run_pure]
      congr 2
      rw [BitVec.toNat_ushiftRight, Nat.shiftRight_eq_div_pow, Int.fdiv_eq_ediv_of_nonneg _ (Int.le_of_lt (Int.pow_pos (by decide)))]
      push_cast
      rcases Nat.le_total n.toNat k.bits with h1 | h1
      · rw [Nat.min_eq_left h1]
      · rw [Nat.min_eq_right h1]
        have := x.isLt
        have e0 : (x.toNat : Int) < 2 ^ k.bits := by exact_mod_cast this
        have e1 : (2:Int) ^ k.bits ≤ 2 ^ n.toNat := by exact_mod_cast Nat.pow_le_pow_right (by decide) h1
        rw [Int.ediv_eq_zero_of_lt (by omega) e0, Int.ediv_eq_zero_of_lt (by omega) (by omega)]
  cases k with
  | u16 => exact key .u16 rfl x vc z h hv
  | u32 => exact key .u32 rfl x vc z h hv
  | u64 => exact key .u64 rfl x vc z h hv
  | u8 =>
    have hx := UInt8.toNat_lt x
    cases op <;> simp only [shI, Option.some.injEq, Prod.mk.injEq, reduceCtorEq] at h <;> obtain ⟨rfl, rfl⟩ := h <;> simp only [allP] at hv
    · simp only [Go.binOp, Op.shift, Int.not_lt.mpr hv, if_false, wrap_u8, Sem.run_pure, encI]
      congr 2
      simp only [UInt8.toNat_ofNat', Nat.shiftLeft_eq, IntKind.bits]
      rw [Int.natCast_emod, Int.natCast_mul, Int.natCast_pow, show ((2 : Nat) : Int) = 2 from rfl, show ((2 ^ 8 : Nat) : Int) = 256 from rfl]
      rcases Nat.le_total n.toNat 8 with h1 | h1
      · rw [Nat.min_eq_left h1]
      · rw [Nat.min_eq_right h1]
        have e1 : (2:Int) ^ n.toNat = 256 * 2 ^ (n.toNat - 8) := by rw [show (256:Int) = 2^8 by rfl, ← Int.pow_add]; congr 1; omega
        rw [e1, Int.mul_left_comm, Int.mul_emod_right, show (2 : Int) ^ 8 = 256 from rfl, Int.mul_emod_left]
    · simp only [Go.binOp, Op.shift, Int.not_lt.mpr hv, if_false, Sem.run_pure, encI]
      congr 2
      rw [Int.fdiv_eq_ediv_of_nonneg _ (Int.le_of_lt (Int.pow_pos (by decide)))]
      simp only [UInt8.toNat_ofNat', Nat.shiftRight_eq_div_pow, IntKind.bits]
      have h3 : UInt8.toNat x / 2 ^ n.toNat < 256 := Nat.lt_of_le_of_lt (Nat.div_le_self _ _) hx
      rw [show 2 ^ 8 = 256 from rfl, Nat.mod_eq_of_lt h3, Int.natCast_ediv, Int.natCast_pow, show ((2 : Nat) : Int) = 2 from rfl]
      rcases Nat.le_total n.toNat 8 with h1 | h1
      · rw [Nat.min_eq_left h1]
      · rw [Nat.min_eq_right h1]
        have e1 : (2:Int) ^ 8 ≤ 2 ^ n.toNat := by exact_mod_cast Nat.pow_le_pow_right (by decide) h1
        rw [Int.ediv_eq_zero_of_lt (by omega) (by omega), Int.ediv_eq_zero_of_lt (by omega) (by omega)]
  | i64 =>
    cases op <;> simp only [shI, Option.some.injEq, Prod.mk.injEq, reduceCtorEq] at h <;> obtain ⟨rfl, rfl⟩ := h <;> simp only [allP] at hv
    · have : min n.toNat IntKind.i64.bits = n.toNat := by simp only [IntKind.bits]; omega
      simp only [Go.binOp, Op.shift, Int.not_lt.mpr hv.1, if_false, this, encI, wrap_inR hv.2.2, Sem.run_pure]
    · have : min n.toNat IntKind.i64.bits = n.toNat := by simp only [IntKind.bits]; omega
      simp only [Go.binOp, Op.shift, Int.not_lt.mpr hv.1, if_false, this, encI, Sem.run_pure]
      rw [Int.fdiv_eq_ediv_of_nonneg _ (Int.le_of_lt (Int.pow_pos (by decide)))]
  | i8 => cases h
  | i16 => cases h
  | i32 => cases h
theorem cvI_wrap {k l : IntKind} {x : IntT k} {vc : List Prop} {z : IntT l} (h : cvI k l x = some (vc, z)) (hv : allP vc) : l.wrap (encI k x) = encI l z := by
  have bv : ∀ (m : Nat) (x : BitVec m) (c : Int), c = 2 ^ m → (BitVec.toNat x : Int) % c = x.toNat := fun m x c hc => by rw [hc]; exact bv_wrap x
  cases k <;> cases l <;> simp only [cvI, Option.some.injEq, Prod.mk.injEq, reduceCtorEq] at h <;> obtain ⟨rfl, rfl⟩ := h <;> simp only [allP] at hv <;>
    simp only [encI, wrap_u8, wrap_u16, wrap_u32, wrap_u64] <;> first
    | exact wrap_inR hv
    | exact bv _ _ _ (by decide)
    | (have := UInt8.toNat_lt x; rw [wrap_inR]; rw [inR64]; omega)
    | (have := BitVec.isLt (w := 16) x; rw [wrap_inR]; rw [inR64]; omega)
    | (have := BitVec.isLt (w := 32) x; rw [wrap_inR]; rw [inR64]; omega)
    | (have := UInt8.toNat_lt x; omega)
    | (simp only [UInt8.toNat_ofNat', BitVec.toNat_ofNat, BitVec.toNat_ofInt]; omega)
theorem unI_run {op : UnOp} {k : IntKind} {x : IntT k} {vc : List Prop} {z : IntT k} (h : unI op k x = some (vc, z)) (hv : allP vc) : (Op.unary op (.int k (encI k x))).run P w = .ok (.int k (encI k z)) w := by
  have key : ∀ (k : IntKind) (hk : k.signed = false) (x : BitVec k.bits), (Op.unary .xor (.int k (x.toNat : Int))).run P w = .ok (.int k ((~~~ x).toNat : Int)) w := by
    intro k hk x
    have ex : BitVec.ofInt k.bits (x.toNat : Int) = x := by rw [ofInt_nat]; simp
    have em : BitVec.ofInt k.bits k.max = BitVec.allOnes k.bits := by cases k <;> first | rfl | cases hk
    have hw : ∀ n, k.wrap n = n % (2 ^ k.bits : Int) := fun n => by simp [IntKind.wrap, hk]
    simp only [Op.unary, hk, Bool.false_eq_true, if_false, Op.intBits, ex, em, Sem.run_pure, hw]
    rw [BitVec.allOnes_xor, bv_wrap]
  cases k with
  | u8 =>
    cases op <;> simp only [unI, Option.some.injEq, Prod.mk.injEq, reduceCtorEq] at h
    obtain ⟨rfl, rfl⟩ := h
    exact key .u8 rfl (UInt8.toBitVec x)
  | u16 => cases op <;> simp only [unI, Option.some.injEq, Prod.mk.injEq, reduceCtorEq] at h; obtain ⟨rfl, rfl⟩ := h; exact key .u16 rfl x
  | u32 => cases op <;> simp only [unI, Option.some.injEq, Prod.mk.injEq, reduceCtorEq] at h; obtain ⟨rfl, rfl⟩ := h; exact key .u32 rfl x
  | u64 => cases op <;> simp only [unI, Option.some.injEq, Prod.mk.injEq, reduceCtorEq] at h; obtain ⟨rfl, rfl⟩ := h; exact key .u64 rfl x
  | i64 =>
    cases op <;> simp only [unI, Option.some.injEq, Prod.mk.injEq, reduceCtorEq] at h
    obtain ⟨rfl, rfl⟩ := h
    simp only [allP] at hv
    simp [Op.unary, Op.intArith, encI, wrap_inR hv]
  | _ => cases op <;> cases h
end
end Go.Proofs.YtbbeldmcdjjnbaaDoor
namespace Go.Proofs.YtbbeldmcdjjnbaaDoor
open Go Go.RowKit
set_option linter.unusedSimpArgs false
set_option linter.unusedVariables false

open Classical in
/-- equality of plain values -/
noncomputable def eqb (t : Ty) (x y : t.T) : Bool := decide (x = y)
theorem eqb_iff {t : Ty} {x y : t.T} : eqb t x y = true ↔ x = y := by unfold eqb; simp
theorem eqb_of {t : Ty} {x y : t.T} {b : Bool} (h : b = true ↔ x = y) : b = eqb t x y := by
  rw [Bool.eq_iff_iff, h, eqb_iff]
theorem eqb_decide {t : Ty} {x y : t.T} [Decidable (x = y)] : eqb t x y = decide (x = y) := by
  rw [Bool.eq_iff_iff, eqb_iff, decide_eq_true_iff]
theorem eqb_self {t : Ty} (x : t.T) : eqb t x x = true := eqb_iff.2 rfl

/-- a type whose values may be compared -/
def Cmp (P : Program) : Ty → TypeId ⊕ List Field → Bool
  | .bool, _ | .int _, _ | .str, _ => true
  | .unit, .inl t => !P.stoodInHeld t
  | .unit, .inr _ => true
  | .pair a b, .inl t => !P.stoodInHeld t && (match P.underlying t with | some (.struct fs) => (match fs.toList with | f :: r => decide (f.name ≠ "_") && Cmp P a (.inl f.type) && Cmp P b (.inr r) | _ => false) | _ => false)
  | .pair a b, .inr m => (match m with | f :: r => decide (f.name ≠ "_") && Cmp P a (.inl f.type) && Cmp P b (.inr r) | _ => false)
  | .arr _ e, .inl t => (match P.underlying t with | some (.array _ te) => Cmp P e (.inl te) | _ => false)
  | _, _ => false
def Ty.depth : Ty → Nat
  | .pair a b => max a.depth b.depth + 1
  | .arr _ e => e.depth + 1
  | _ => 1

theorem encI_inj {k : IntKind} {x y : IntT k} : encI k x = encI k y ↔ x = y := by
  cases k <;> simp only [encI]
  · rw [Int.natCast_inj]; exact UInt8.toNat_inj
  · rw [Int.natCast_inj]; exact BitVec.toNat_inj
  · rw [Int.natCast_inj]; exact BitVec.toNat_inj
  · rw [Int.natCast_inj]; exact BitVec.toNat_inj

section
variable {P : Program} {w : World} {O O' : Nat → Prop}
/-- == on two values of a type, the two ways in which a type is met: by its number, by a struct's fields -/
theorem equalIn_run : ∀ (τ : Ty) (d : Nat), τ.depth ≤ d →
    (∀ (t : TypeId) (x y : τ.T) (u v : Value), Lay P τ (.inl t) → Cmp P τ (.inl t) = true → RepD w O τ x u → RepD w O' τ y v → (Op.equalIn d t u v).run P w = .ok (eqb τ x y) w) ∧
    (∀ (fs : List Field) (off : Nat) (x y : τ.T) (pre pre' cs ds : List Value), Lay P τ (.inr (fs, off)) → Cmp P τ (.inr fs) = true → RepC w O τ x cs → RepC w O' τ y ds → pre.length = off → pre'.length = off →
      (Op.eqFields d (pre ++ cs).toArray (pre' ++ ds).toArray fs).run P w = .ok (eqb τ x y) w) := by
  intro τ
  induction τ with
  | bool =>
    intro d hd
    obtain ⟨d, rfl⟩ : ∃ e, d = e + 1 := ⟨d - 1, by simp [Ty.depth] at hd; omega⟩
    refine ⟨fun t x y u v hl hc hx hy => ?_, fun fs off x y pre pre' cs ds hl => absurd hl (by simp [Lay])⟩
    have h1 := (RepD.scalar rfl).1 hx
    have h2 := (RepD.scalar rfl).1 hy
    simp only [RepC, List.cons.injEq, and_true] at h1 h2
    subst h1; subst h2
    rw [run_equalIn_bool' w d t _ _ hl.1]
    congr 1
    exact eqb_of (by simp)
  | int k =>
    intro d hd
    obtain ⟨d, rfl⟩ : ∃ e, d = e + 1 := ⟨d - 1, by simp [Ty.depth] at hd; omega⟩
    refine ⟨fun t x y u v hl hc hx hy => ?_, fun fs off x y pre pre' cs ds hl => absurd hl (by simp [Lay])⟩
    have h1 := (RepD.scalar rfl).1 hx
    have h2 := (RepD.scalar rfl).1 hy
    simp only [RepC, List.cons.injEq, and_true] at h1 h2
    subst h1; subst h2
    rw [run_equalIn_int w d t _ k _ _ hl.1]
    congr 1
    exact eqb_of (by rw [beq_iff_eq]; exact encI_inj)
  | str =>
    intro d hd
    obtain ⟨d, rfl⟩ : ∃ e, d = e + 1 := ⟨d - 1, by simp [Ty.depth] at hd; omega⟩
    refine ⟨fun t x y u v hl hc hx hy => ?_, fun fs off x y pre pre' cs ds hl => absurd hl (by simp [Lay])⟩
    have h1 := ((RepD.scalar rfl).1 hx).1
    have h2 := ((RepD.scalar rfl).1 hy).1
    simp only [List.cons.injEq, and_true] at h1 h2
    subst h1; subst h2
    rw [run_equalIn_string w d t _ _ hl.1]
    congr 1
    rw [ByteArray.toList_eq, ByteArray.toList_eq]
    exact eqb_of (by simp)
  | unit =>
    intro d hd
    obtain ⟨d, rfl⟩ : ∃ e, d = e + 1 := ⟨d - 1, by simp [Ty.depth] at hd; omega⟩
    refine ⟨fun t x y u v hl hc hx hy => ?_, fun fs off x y pre pre' cs ds hl hc hx hy hp hq => ?_⟩
    · obtain ⟨fs, hu, hi, hf⟩ := hl
      obtain ⟨cs, rfl, hx⟩ := (RepD.agg rfl).1 hx
      obtain ⟨ds, rfl, hy⟩ := (RepD.agg rfl).1 hy
      simp only [Cmp, Bool.not_eq_true'] at hc
      have hfs : P.fieldsOf t = fs := by simp [Program.fieldsOf, hu]
      rw [run_equalIn_struct w d t _ _ (hfs ▸ hu) hc, hfs, hf]
      simp only [Op.eqFields, Sem.run_pure]
      congr 1
      exact (eqb_iff.2 rfl).symm
    · have : fs = [] := hl
      subst this
      simp only [Op.eqFields, Sem.run_pure]
      congr 1
      exact (eqb_iff.2 rfl).symm
  | pair a b iha ihb =>
    have key : ∀ d, (Ty.pair a b).depth ≤ d + 1 → ∀ (fs : List Field) (off : Nat) (x y : (Ty.pair a b).T) (pre pre' cs ds : List Value), Lay P (.pair a b) (.inr (fs, off)) → Cmp P (.pair a b) (.inr fs) = true → RepC w O (.pair a b) x cs → RepC w O' (.pair a b) y ds → pre.length = off → pre'.length = off →
      (Op.eqFields d (pre ++ cs).toArray (pre' ++ ds).toArray fs).run P w = .ok (eqb (.pair a b) x y) w := by
      intro d hd fs off x y pre pre' cs ds hl hc hx hy hp hq
      simp only [Ty.depth] at hd
      obtain ⟨f, r, h1, h2, h3, h4⟩ := hl
      simp only at h1 h2 h4
      subst h1
      simp only [Cmp, Bool.and_eq_true, decide_eq_true_eq] at hc
      obtain ⟨c1, c2, rfl, hx1, hx2⟩ := hx
      obtain ⟨d1, d2, rfl, hy1, hy2⟩ := hy
      have lc := RepC.len _ _ _ hx1
      have ld := RepC.len _ _ _ hy1
      have e1 : RepC w O a x.1 (((pre ++ (c1 ++ c2)).drop f.offset).take a.size) := by
        rw [h2, ← hp, List.drop_left, ← lc, List.take_left]; exact hx1
      have e2 : RepC w O' a y.1 (((pre' ++ (d1 ++ d2)).drop f.offset).take a.size) := by
        rw [h2, ← hq, List.drop_left, ← ld, List.take_left]; exact hy1
      obtain ⟨u1, p1, q1⟩ := h3.part e1
      obtain ⟨v1, p2, q2⟩ := h3.part e2
      have := (iha d (by omega)).1 _ _ _ _ _ h3 hc.1.2 q1 q2
      have i2 := (ihb d (by omega)).2 r (off + a.size) x.2 y.2 (pre ++ c1) (pre' ++ d1) c2 d2 h4 hc.2 hx2 hy2 (by simp [hp, lc]) (by simp [hq, ld])
      simp only [List.append_assoc] at i2
      simp only [Op.eqFields, ne_eq, hc.1.1, not_false_eq_true, if_true, Sem.run_bind, p1, p2, this, Result.andThen_ok]
      cases he : eqb a x.1 y.1 with
      | true =>
        simp only [Bool.not_true, Bool.false_eq_true, if_false, i2]
        congr 1
        refine eqb_of ?_
        rw [eqb_iff]
        have := eqb_iff.1 he
        constructor
        · intro h; exact Prod.ext this h
        · intro h; rw [h]
      | false =>
        simp only [Bool.not_false, if_true, Sem.run_pure]
        congr 1
        refine eqb_of ?_
        constructor
        · intro h; cases h
        · intro h; rw [h, eqb_self] at he; cases he
    intro d hd
    obtain ⟨d, rfl⟩ : ∃ e, d = e + 1 := ⟨d - 1, by simp [Ty.depth] at hd; omega⟩
    refine ⟨fun t x y u v hl hc hx hy => ?_, fun fs off x y pre pre' cs ds hl hc hx hy hp hq => key (d + 1) (by omega) fs off x y pre pre' cs ds hl hc hx hy hp hq⟩
    obtain ⟨fs, hu, hi, f, r, h1, h2, h3, h4⟩ := hl
    obtain ⟨cs, rfl, hx'⟩ := (RepD.agg rfl).1 hx
    obtain ⟨ds, rfl, hy'⟩ := (RepD.agg rfl).1 hy
    simp only [Cmp, Bool.and_eq_true, Bool.not_eq_true', hu, h1] at hc
    have hfs : P.fieldsOf t = fs := by simp [Program.fieldsOf, hu]
    rw [run_equalIn_struct w d t _ _ (hfs ▸ hu) hc.1, hfs]
    exact key d hd fs.toList 0 x y [] [] cs ds ⟨f, r, h1, h2, h3, by simpa using h4⟩ (by simp only [Cmp, h1, Bool.and_eq_true]; exact hc.2) hx' hy' rfl rfl
  | arr n e ih =>
    intro d hd
    obtain ⟨d, rfl⟩ : ∃ e, d = e + 1 := ⟨d - 1, by simp [Ty.depth] at hd; omega⟩
    refine ⟨fun t x y u v hl hc hx hy => ?_, fun fs off x y pre pre' cs ds hl => absurd hl (by simp [Lay])⟩
    obtain ⟨te, hu, hi, hte⟩ := hl
    obtain ⟨cs, rfl, hx0, hx⟩ := (RepD.agg rfl).1 hx
    obtain ⟨ds, rfl, hy0, hy⟩ := (RepD.agg rfl).1 hy
    simp only [Cmp, hu] at hc
    obtain ⟨i, z, hinf, hsz, _⟩ := hte.info
    have hce : P.cellsOf te = e.size := by simp [Program.cellsOf, hinf, hsz]
    rw [run_equalIn_array w d _ _ hu hinf, hce]
    have key : ∀ (m k : Nat), k + m = n → (Op.eqItems d te e.size cs.toArray ds.toArray (List.range' k m)).run P w = .ok (eqb (.arr m e) (List.drop k x) (List.drop k y)) w := by
      intro m
      induction m with
      | zero =>
        intro k hk
        simp only [List.range'_zero, Op.eqItems, Sem.run_pure]
        congr 1
        refine (eqb_iff.2 ?_).symm
        rw [List.drop_eq_nil_of_le (by omega), List.drop_eq_nil_of_le (by omega)]
      | succ m ihm =>
        intro k hk
        have hkx : k < List.length x := by omega
        have hky : k < List.length y := by omega
        have nx := hx.nth (fun x c => RepC.len e x c) (List.getElem?_eq_getElem hkx)
        have ny := hy.nth (fun x c => RepC.len e x c) (List.getElem?_eq_getElem hky)
        obtain ⟨u1, p1, q1⟩ := hte.part nx
        obtain ⟨v1, p2, q2⟩ := hte.part ny
        have he := (ih d (by simp [Ty.depth] at hd; omega)).1 _ _ _ _ _ hte hc q1 q2
        rw [List.range'_succ]
        simp only [Op.eqItems, Sem.run_bind, p1, p2, he, Result.andThen_ok]
        have dx : List.drop k x = (x[k]'hkx) :: List.drop (k + 1) x := List.drop_eq_getElem_cons hkx
        have dy : List.drop k y = (y[k]'hky) :: List.drop (k + 1) y := List.drop_eq_getElem_cons hky
        cases hb : eqb e (x[k]'hkx) (y[k]'hky) with
        | true =>
          simp only [Bool.not_true, Bool.false_eq_true, if_false, ihm (k + 1) (by omega)]
          congr 1
          refine eqb_of ?_
          rw [eqb_iff, dx, dy, eqb_iff.1 hb]
          constructor
          · intro h; rw [h]
          · intro h; exact (List.cons.inj h).2
        | false =>
          simp only [Bool.not_false, if_true, Sem.run_pure]
          congr 1
          refine eqb_of ?_
          constructor
          · intro h; cases h
          · intro h
            rw [dx, dy] at h
            rw [(List.cons.inj h).1, eqb_self] at hb
            cases hb
    have := key n 0 (by omega)
    rw [List.range_eq_range']
    exact this
  | _ => intro d hd; exact ⟨fun t x y u v hl hc => absurd hc (by simp [Cmp]), fun fs off x y pre pre' cs ds hl => absurd hl (by simp [Lay])⟩
end
end Go.Proofs.YtbbeldmcdjjnbaaDoor
