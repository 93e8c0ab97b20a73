/-
  How a program's types lie: a table that gives typed plain types to a program's type numbers, and what reading a part, a variable, a field comes to. No program is read here.
-/
import Derived.Test.YtpepbnieocdpbaaDoorAbsSim
import Derived.Deep.MidRow
import Derived.Laws.BytesArg
import Derived.Laws.IdiomStrings
namespace Go.Proofs.YtpepbnieocdpbaaDoor
open Go Go.RowKit
set_option linter.unusedSimpArgs false
set_option linter.unusedVariables false

def zcells : Ty → List Value
  | .bool => [.bool false]
  | .int k => [.int k 0]
  | .str => [.string ⟨#[]⟩]
  | .slice _ => [.slice none 0 0]
  | .pair a b => zcells a ++ zcells b
  | .arr n t => (List.replicate n (zcells t)).flatten
  | _ => []
def zeroI : (k : IntKind) → IntT k
  | .u8 => (0 : UInt8)
  | .u16 => (0 : BitVec 16)
  | .u32 => (0 : BitVec 32)
  | .u64 => (0 : BitVec 64)
  | .i8 => (0 : Int)
  | .i16 => (0 : Int)
  | .i32 => (0 : Int)
  | .i64 => (0 : Int)
def zeroX : (t : Ty) → t.T
  | .bool => false
  | .int k => zeroI k
  | .str => []
  | .unit => ()
  | .pair a b => (zeroX a, zeroX b)
  | .arr n t => List.replicate n (zeroX t)
  | .slice _ => []
  | .junk => ()
  | .lit => .nilFunc
  | .vptr t => zeroX t
  | .optr t => ⟨0, t, .here⟩
  | .obuf _ => (0 : Nat)
  | .tup a b => (zeroX a, zeroX b)
  | .cond t => (false, zeroX t)
def Ty.data : Ty → Bool
  | .bool | .int _ | .str | .unit => true
  | .pair a b => a.data && b.data
  | .arr _ t => t.data
  | .slice t => t.data
  | _ => false
theorem encI_zero (k : IntKind) : encI k (zeroI k) = 0 := by cases k <;> rfl
theorem repC_zero (w : World) (O : Nat → Prop) : ∀ t : Ty, t.data = true → RepC w O t (zeroX t) (zcells t) := by
  intro t
  induction t with
  | bool => intro _; rfl
  | int k => intro _; show _ = _; rw [show zeroX (.int k) = zeroI k from rfl, encI_zero]; rfl
  | str => intro _; exact ⟨rfl, by simp [zeroX]⟩
  | unit => intro _; rfl
  | pair a b iha ihb => intro h; simp [Ty.data] at h; exact ⟨_, _, rfl, iha h.1, ihb h.2⟩
  | arr n t ih =>
    intro h
    refine ⟨by simp [zeroX], ?_⟩
    simp only [zeroX, zcells]
    induction n with
    | zero => rfl
    | succ n ihn => exact ⟨_, _, rfl, ih h, ihn h⟩
  | slice t ih => intro _; exact ⟨_, rfl, .inl ⟨rfl, none, 0, rfl, by simp⟩⟩
  | _ => intro h; simp [Ty.data] at h

/-- the row of a type: size, zero, bytes -/
def Info (P : Program) (t : TypeId) (τ : Ty) : Prop := ∃ i z, P.info? t = some i ∧ i.size = τ.size ∧ i.zero = some z ∧ z.cells = (zcells τ).toArray ∧ i.bytes ≤ 24 * τ.size
/-- how a type lies -/
def Lay (P : Program) : Ty → TypeId ⊕ (List Field × Nat) → Prop
  | .bool, .inl t => P.underlying t = some .bool ∧ Info P t .bool
  | .int k, .inl t => P.underlying t = some (.int k) ∧ Info P t (.int k)
  | .str, .inl t => P.underlying t = some .string ∧ Info P t .str
  | .unit, .inl t => ∃ fs, P.underlying t = some (.struct fs) ∧ Info P t .unit ∧ fs.toList = []
  | .unit, .inr m => m.1 = []
  | .pair a b, .inl t => ∃ fs, P.underlying t = some (.struct fs) ∧ Info P t (.pair a b) ∧ ∃ f r, fs.toList = f :: r ∧ f.offset = 0 ∧ Lay P a (.inl f.type) ∧ Lay P b (.inr (r, a.size))
  | .pair a b, .inr m => ∃ f r, m.1 = f :: r ∧ f.offset = m.2 ∧ Lay P a (.inl f.type) ∧ Lay P b (.inr (r, m.2 + a.size))
  | .arr n e, .inl t => ∃ te, P.underlying t = some (.array n te) ∧ Info P t (.arr n e) ∧ Lay P e (.inl te)
  | .slice e, .inl t => ∃ te, P.underlying t = some (.slice te) ∧ Info P t (.slice e) ∧ Lay P e (.inl te)
  | _, _ => False

/-- the scalar zeros are the same -/
def sameZ : Value → Value → Bool
  | .bool a, .bool b => a == b
  | .int k a, .int l b => decide (k = l) && decide (a = b)
  | .string a, .string b => a.data.toList == b.data.toList
  | .slice none n c, .slice none m d => Nat.beq n m && Nat.beq c d
  | _, _ => false
theorem sameZ_eq {a b : Value} (h : sameZ a b = true) : a = b := by
  cases a <;> cases b <;> simp_all [sameZ]
  · rename_i x y
    cases x; cases y; simp_all
  · rename_i x n c y m d
    cases x <;> cases y <;> simp_all [sameZ]
def sameZs : List Value → List Value → Bool
  | [], [] => true
  | a :: r, b :: s => sameZ a b && sameZs r s
  | _, _ => false
theorem sameZs_eq : ∀ {a b : List Value}, sameZs a b = true → a = b
  | [], [], _ => rfl
  | a :: r, b :: s, h => by
    simp [sameZs] at h
    rw [sameZ_eq h.1, sameZs_eq h.2]
  | [], _ :: _, h => by simp [sameZs] at h
  | _ :: _, [], h => by simp [sameZs] at h
def infoB (P : Program) (t : TypeId) (τ : Ty) : Bool :=
  match P.info? t with
  | some i => Nat.beq i.size τ.size && Nat.ble i.bytes (24 * τ.size) && (match i.zero with | some z => sameZs z.cells.toList (zcells τ) | none => false)
  | none => false
theorem infoB_ok {P : Program} {t : TypeId} {τ : Ty} (h : infoB P t τ = true) : Info P t τ := by
  unfold infoB at h
  split at h
  · rename_i i hi
    simp only [Bool.and_eq_true, Nat.beq_eq, Nat.ble_eq] at h
    obtain ⟨⟨h1, h2⟩, h3⟩ := h
    split at h3
    · rename_i z hz
      exact ⟨i, z, hi, h1, hz, by rw [← sameZs_eq h3], h2⟩
    · cases h3
  · cases h
def layB (P : Program) : Ty → TypeId ⊕ (List Field × Nat) → Bool
  | .bool, .inl t => (match P.underlying t with | some .bool => true | _ => false) && infoB P t .bool
  | .int k, .inl t => (match P.underlying t with | some (.int l) => decide (k = l) | _ => false) && infoB P t (.int k)
  | .str, .inl t => (match P.underlying t with | some .string => true | _ => false) && infoB P t .str
  | .unit, .inl t => (match P.underlying t with | some (.struct fs) => (match fs.toList with | [] => true | _ => false) | _ => false) && infoB P t .unit
  | .unit, .inr m => (match m.1 with | [] => true | _ => false)
  | .pair a b, .inl t => (match P.underlying t with | some (.struct fs) => (match fs.toList with | f :: r => Nat.beq f.offset 0 && layB P a (.inl f.type) && layB P b (.inr (r, a.size)) | _ => false) | _ => false) && infoB P t (.pair a b)
  | .pair a b, .inr m => (match m.1 with | f :: r => Nat.beq f.offset m.2 && layB P a (.inl f.type) && layB P b (.inr (r, m.2 + a.size)) | _ => false)
  | .arr n e, .inl t => (match P.underlying t with | some (.array k te) => Nat.beq n k && layB P e (.inl te) | _ => false) && infoB P t (.arr n e)
  | .slice e, .inl t => (match P.underlying t with | some (.slice te) => layB P e (.inl te) | _ => false) && infoB P t (.slice e)
  | _, _ => false
theorem layB_ok {P : Program} : ∀ (τ : Ty) (m : TypeId ⊕ (List Field × Nat)), layB P τ m = true → Lay P τ m := by
  intro τ
  induction τ with
  | bool =>
    rintro (t | m) h
    · simp only [layB, Bool.and_eq_true] at h
      refine ⟨?_, infoB_ok h.2⟩
      have h1 := h.1
      split at h1
      · assumption
      · cases h1
    · cases h
  | int k =>
    rintro (t | m) h
    · simp only [layB, Bool.and_eq_true] at h
      refine ⟨?_, infoB_ok h.2⟩
      have h1 := h.1
      split at h1
      · rename_i l hl
        simp at h1
        rw [h1]; exact hl
      · cases h1
    · cases h
  | str =>
    rintro (t | m) h
    · simp only [layB, Bool.and_eq_true] at h
      refine ⟨?_, infoB_ok h.2⟩
      have h1 := h.1
      split at h1
      · assumption
      · cases h1
    · cases h
  | unit =>
    rintro (t | m) h
    · simp only [layB, Bool.and_eq_true] at h
      have h1 := h.1
      split at h1
      · rename_i fs hfs
        refine ⟨fs, hfs, infoB_ok h.2, ?_⟩
        split at h1
        · assumption
        · cases h1
      · cases h1
    · simp only [layB] at h
      show m.1 = []
      split at h
      · assumption
      · cases h
  | pair a b iha ihb =>
    rintro (t | m) h
    · simp only [layB, Bool.and_eq_true] at h
      have h1 := h.1
      split at h1
      · rename_i fs hfs
        split at h1
        · rename_i f r hfr
          simp only [Bool.and_eq_true, Nat.beq_eq] at h1
          exact ⟨fs, hfs, infoB_ok h.2, f, r, hfr, h1.1.1, iha _ h1.1.2, ihb _ h1.2⟩
        · cases h1
      · cases h1
    · simp only [layB] at h
      split at h
      · rename_i f r hfr
        simp only [Bool.and_eq_true, Nat.beq_eq] at h
        exact ⟨f, r, hfr, h.1.1, iha _ h.1.2, ihb _ h.2⟩
      · cases h
  | arr n e ih =>
    rintro (t | m) h
    · simp only [layB, Bool.and_eq_true] at h
      have h1 := h.1
      split at h1
      · rename_i k te hk
        simp only [Bool.and_eq_true, Nat.beq_eq] at h1
        rw [← h1.1] at hk
        exact ⟨te, hk, infoB_ok h.2, ih _ h1.2⟩
      · cases h1
    · cases h
  | slice e ih =>
    rintro (t | m) h
    · simp only [layB, Bool.and_eq_true] at h
      have h1 := h.1
      split at h1
      · rename_i te hk
        exact ⟨te, hk, infoB_ok h.2, ih _ h1⟩
      · cases h1
    · cases h
  | _ => intro m h; cases m <;> cases h

section
variable {P : Program} {w : World} {O : Nat → Prop}
theorem Lay.info {τ : Ty} {t : TypeId} (h : Lay P τ (.inl t)) : Info P t τ := by
  cases τ <;> first
    | exact h.2
    | (obtain ⟨_, _, h, _⟩ := h; exact h)
    | exact absurd h (by simp [Lay])
theorem Lay.data : ∀ {τ : Ty} {m : TypeId ⊕ (List Field × Nat)}, Lay P τ m → τ.data = true := by
  intro τ
  induction τ with
  | pair a b iha ihb =>
    rintro (t | m) h
    · obtain ⟨_, _, _, f, r, _, _, h1, h2⟩ := h
      simp [Ty.data, iha h1, ihb h2]
    · obtain ⟨f, r, _, _, h1, h2⟩ := h
      simp [Ty.data, iha h1, ihb h2]
  | arr n e ih =>
    rintro (t | m) h
    · obtain ⟨_, _, _, h1⟩ := h; simp [Ty.data, ih h1]
    · exact absurd h (by simp [Lay])
  | slice e ih =>
    rintro (t | m) h
    · obtain ⟨_, _, _, h1⟩ := h; simp [Ty.data, ih h1]
    · exact absurd h (by simp [Lay])
  | bool => intro _ _; rfl
  | int => intro _ _; rfl
  | str => intro _ _; rfl
  | unit => intro _ _; rfl
  | _ => intro m h; cases m <;> exact absurd h (by simp [Lay])
theorem Lay.sizeOf {τ : Ty} {t : TypeId} (h : Lay P τ (.inl t)) : (Go.sizeOf t).run P w = .ok τ.size w := by
  obtain ⟨i, z, h1, h2, _⟩ := h.info
  simp [Go.sizeOf, typeInfo, h1, h2]
theorem Lay.cellSize {τ : Ty} {t : TypeId} (h : Lay P τ (.inl t)) : (P.info? t).map (·.size) = some τ.size := by
  obtain ⟨i, z, h1, h2, _⟩ := h.info
  simp [h1, h2]
theorem Lay.isAgg {τ : Ty} {t : TypeId} (h : Lay P τ (.inl t)) : (Go.isAgg t).run P w = .ok τ.isAgg w := by
  unfold Go.isAgg
  cases τ with
  | bool => rw [Sem.run_bind, run_underlying h.1]; rfl
  | int => rw [Sem.run_bind, run_underlying h.1]; rfl
  | str => rw [Sem.run_bind, run_underlying h.1]; rfl
  | unit => obtain ⟨_, h1, _⟩ := h; rw [Sem.run_bind, run_underlying h1]; rfl
  | pair => obtain ⟨_, h1, _⟩ := h; rw [Sem.run_bind, run_underlying h1]; rfl
  | arr => obtain ⟨_, h1, _⟩ := h; rw [Sem.run_bind, run_underlying h1]; rfl
  | slice => obtain ⟨_, h1, _⟩ := h; rw [Sem.run_bind, run_underlying h1]; rfl
  | _ => exact absurd h (by simp [Lay])
theorem RepC.single {τ : Ty} (hd : τ.isAgg = false) {x : τ.T} {cs : List Value} (h : RepC w O τ x cs) : ∃ u, cs = [u] := by
  have hl := RepC.len _ _ _ h
  have : τ.size = 1 := by cases τ <;> first | rfl | (cases hd; done) | (simp [RepC] at h; done)
  rw [this] at hl
  exact List.length_eq_one_iff.1 hl
/-- a part of an aggregate -/
theorem Lay.part {τ : Ty} {t : TypeId} (h : Lay P τ (.inl t)) {x : τ.T} {cs : List Value} {k : Nat} (hr : RepC w O τ x ((cs.drop k).take τ.size)) :
    ∃ u, (Go.part t cs.toArray k).run P w = .ok u w ∧ RepD w O τ x u := by
  unfold Go.part
  simp only [Sem.run_bind, h.isAgg, Result.andThen_ok]
  cases hd : τ.isAgg with
  | true =>
    simp only [if_true, Sem.run_bind, h.sizeOf, Result.andThen_ok, Sem.run_pure]
    refine ⟨_, rfl, (RepD.agg hd).2 ⟨_, ?_, hr⟩⟩
    simp only [List.extract_toArray, Value.agg.injEq, List.extract_eq_take_drop]
    congr 1
    simp
  | false =>
    obtain ⟨u, hu⟩ := RepC.single hd hr
    have hk : cs[k]? = some u := by
      have h1 : ((cs.drop k).take τ.size)[0]? = some u := by rw [hu]; rfl
      rw [List.getElem?_take] at h1
      split at h1
      · simpa using h1
      · cases h1
    refine ⟨u, ?_, (RepD.scalar hd).2 (hu ▸ hr)⟩
    simp [hk]
/-- a variable is read -/
theorem Lay.loadVar {τ : Ty} {t : TypeId} (h : Lay P τ (.inl t)) {x : τ.T} {cs : List Value} {g off : Nat} (hr : RepC w O τ x cs) (hc : CellsAt w g off cs) :
    ∃ u, (Go.loadVar t ⟨g, off, none⟩).run P w = .ok u w ∧ RepD w O τ x u := by
  unfold Go.loadVar
  simp only [Sem.run_bind, h.isAgg, Result.andThen_ok]
  have hl := RepC.len _ _ _ hr
  cases hd : τ.isAgg with
  | true =>
    have h2 := run_loadCells_list (P := P) w ⟨g, off, none⟩ cs (fun j v hv => by rw [Addr.add_mid]; exact hc j v hv)
    rw [hl] at h2
    simp only [if_true, Sem.run_bind, h.sizeOf, Result.andThen_ok, h2, Sem.run_pure]
    exact ⟨_, rfl, (RepD.agg hd).2 ⟨_, rfl, hr⟩⟩
  | false =>
    obtain ⟨u, rfl⟩ := RepC.single hd hr
    refine ⟨u, ?_, (RepD.scalar hd).2 hr⟩
    have := hc 0 u rfl
    simp [load, Sem.run, show w.cell? ⟨g, off, none⟩ = some u from this]
theorem Lay.loadAt {τ : Ty} {t : TypeId} (h : Lay P τ (.inl t)) {x : τ.T} {cs : List Value} {g off : Nat} (hr : RepC w O τ x cs) (hc : CellsAt w g off cs) :
    ∃ u, (Instr.loadAt t (.pointer (some ⟨g, off, none⟩))).run P w = .ok u w ∧ RepD w O τ x u := by
  obtain ⟨u, h1, h2⟩ := h.loadVar hr hc
  exact ⟨u, by simp [Instr.loadAt, Instr.sureAddr, h1], h2⟩

/-- the n-th field -/
def fieldV : Nat → (t : Ty) → t.T → Option V
  | 0, .pair a _, x => some ⟨a, x.1⟩
  | n + 1, .pair _ b, x => fieldV n b x.2
  | _, _, _ => none
def fieldOff : Nat → Ty → Nat
  | n + 1, .pair a b => a.size + fieldOff n b
  | _, _ => 0
theorem fieldV_spec : ∀ (n : Nat) (τ : Ty) (x : τ.T) (v : V) (fs : List Field) (off : Nat) (cs : List Value), fieldV n τ x = some v → Lay P τ (.inr (fs, off)) → RepC w O τ x cs →
    ∃ f, fs[n]? = some f ∧ f.offset = off + fieldOff n τ ∧ Lay P v.t (.inl f.type) ∧ RepC w O v.t v.x ((cs.drop (fieldOff n τ)).take v.t.size)
  | 0, .pair a b, x, v, fs, off, cs, h, hl, hr => by
    cases h
    obtain ⟨f, r, h1, h2, h3, h4⟩ := hl
    obtain ⟨c1, c2, rfl, h5, h6⟩ := hr
    simp only at h1 h2
    subst h1
    refine ⟨f, rfl, by simp [fieldOff, h2], h3, ?_⟩
    have := RepC.len _ _ _ h5
    simp [fieldOff, ← this, h5]
  | n + 1, .pair a b, x, v, fs, off, cs, h, hl, hr => by
    obtain ⟨f, r, h1, h2, h3, h4⟩ := hl
    obtain ⟨c1, c2, rfl, h5, h6⟩ := hr
    simp only at h1 h2
    subst h1
    obtain ⟨f', h7, h8, h9, h10⟩ := fieldV_spec n b x.2 v r _ c2 h h4 h6
    have := RepC.len _ _ _ h5
    refine ⟨f', by simpa using h7, by rw [h8]; simp [fieldOff, Nat.add_assoc], h9, ?_⟩
    rw [show fieldOff (n + 1) (.pair a b) = c1.length + fieldOff n b by simp [fieldOff, this], List.drop_length_add_append]
    exact h10
  | 0, .unit, _, _, _, _, _, h, _, _ => by cases h
  | _ + 1, .unit, _, _, _, _, _, h, _, _ => by cases h
  | n, .bool, _, _, _, _, _, h, _, _ => by cases n <;> cases h
  | n, .int _, _, _, _, _, _, h, _, _ => by cases n <;> cases h
  | n, .str, _, _, _, _, _, h, _, _ => by cases n <;> cases h
  | n, .arr _ _, _, _, _, _, _, h, _, _ => by cases n <;> cases h
  | n, .slice _, _, _, _, _, _, h, _, _ => by cases n <;> cases h
  | n, .junk, _, _, _, _, _, h, _, _ => by cases n <;> cases h
  | n, .lit, _, _, _, _, _, h, _, _ => by cases n <;> cases h
  | n, .vptr _, _, _, _, _, _, h, _, _ => by cases n <;> cases h
  | n, .optr _, _, _, _, _, _, h, _, _ => by cases n <;> cases h
  | n, .obuf _, _, _, _, _, _, h, _, _ => by cases n <;> cases h
  | n, .tup _ _, _, _, _, _, _, h, _, _ => by cases n <;> cases h
  | n, .cond _, _, _, _, _, _, h, _, _ => by cases n <;> cases h
theorem Lay.struct {n : Nat} {τ : Ty} {t : TypeId} (h : Lay P τ (.inl t)) {x : τ.T} {v : V} (hv : fieldV n τ x = some v) :
    ∃ fs, P.underlying t = some (.struct fs) ∧ Lay P τ (.inr (fs.toList, 0)) := by
  cases τ with
  | pair a b =>
    obtain ⟨fs, h1, _, f, r, h2, h3, h4, h5⟩ := h
    exact ⟨fs, h1, f, r, h2, h3, h4, by simpa using h5⟩
  | _ => cases n <;> cases hv
/-- a field of a struct that is a value -/
theorem Lay.field {n : Nat} {τ : Ty} {t : TypeId} (h : Lay P τ (.inl t)) {x : τ.T} {v : V} (hv : fieldV n τ x = some v) {u : Value} (hr : RepD w O τ x u) :
    ∃ y, (Instr.field t u n).run P w = .ok y w ∧ RepD w O v.t v.x y := by
  obtain ⟨fs, h1, h2⟩ := h.struct hv
  have hagg : τ.isAgg = true := by cases τ <;> first | rfl | (cases n <;> cases hv)
  obtain ⟨cs, rfl, hc⟩ := (RepD.agg hagg).1 hr
  obtain ⟨f, h3, h4, h5, h6⟩ := fieldV_spec n τ x v _ _ cs hv h2 hc
  rw [Nat.zero_add] at h4
  obtain ⟨y, h7, h8⟩ := h5.part h6
  refine ⟨y, ?_, h8⟩
  unfold Instr.field
  simp only [Sem.run_bind, run_underlying h1, Result.andThen_ok]
  rw [show fs[n]? = some f by simpa using h3]
  simp only [asAgg, Sem.run_bind, Sem.run_pure, Result.andThen_ok, h4]
  exact h7
end
end Go.Proofs.YtpepbnieocdpbaaDoor
