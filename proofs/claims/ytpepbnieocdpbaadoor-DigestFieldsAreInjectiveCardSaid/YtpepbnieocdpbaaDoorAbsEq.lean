/-
  == on typed plain values: it decides equality. No program is read here.
-/
import Derived.Test.YtpepbnieocdpbaaDoorAbsInt
import Derived.Laws.StructEq
import Derived.ChangeKeysEq
namespace Go.Proofs.YtpepbnieocdpbaaDoor
open Go Go.RowKit
set_option linter.unusedSimpArgs false
set_option linter.unusedVariables false

open Classical in
/-- equality of plain values -/
noncomputable def eqb (t : Ty) (x y : t.T) : Bool := decide (x = y)
theorem eqb_iff {t : Ty} {x y : t.T} : eqb t x y = true ↔ x = y := by unfold eqb; simp
theorem eqb_of {t : Ty} {x y : t.T} {b : Bool} (h : b = true ↔ x = y) : b = eqb t x y := by
  rw [Bool.eq_iff_iff, h, eqb_iff]
theorem eqb_decide {t : Ty} {x y : t.T} [Decidable (x = y)] : eqb t x y = decide (x = y) := by
  rw [Bool.eq_iff_iff, eqb_iff, decide_eq_true_iff]
theorem eqb_self {t : Ty} (x : t.T) : eqb t x x = true := eqb_iff.2 rfl

/-- a type whose values may be compared -/
def Cmp (P : Program) : Ty → TypeId ⊕ List Field → Bool
  | .bool, _ | .int _, _ | .str, _ => true
  | .unit, .inl t => !P.stoodInHeld t
  | .unit, .inr _ => true
  | .pair a b, .inl t => !P.stoodInHeld t && (match P.underlying t with | some (.struct fs) => (match fs.toList with | f :: r => decide (f.name ≠ "_") && Cmp P a (.inl f.type) && Cmp P b (.inr r) | _ => false) | _ => false)
  | .pair a b, .inr m => (match m with | f :: r => decide (f.name ≠ "_") && Cmp P a (.inl f.type) && Cmp P b (.inr r) | _ => false)
  | .arr _ e, .inl t => (match P.underlying t with | some (.array _ te) => Cmp P e (.inl te) | _ => false)
  | _, _ => false
def Ty.depth : Ty → Nat
  | .pair a b => max a.depth b.depth + 1
  | .arr _ e => e.depth + 1
  | _ => 1

theorem encI_inj {k : IntKind} {x y : IntT k} : encI k x = encI k y ↔ x = y := by
  cases k <;> simp only [encI]
  · rw [Int.natCast_inj]; exact UInt8.toNat_inj
  · rw [Int.natCast_inj]; exact BitVec.toNat_inj
  · rw [Int.natCast_inj]; exact BitVec.toNat_inj
  · rw [Int.natCast_inj]; exact BitVec.toNat_inj

section
variable {P : Program} {w : World} {O O' : Nat → Prop}
/-- == on two values of a type, the two ways in which a type is met: by its number, by a struct's fields -/
theorem equalIn_run : ∀ (τ : Ty) (d : Nat), τ.depth ≤ d →
    (∀ (t : TypeId) (x y : τ.T) (u v : Value), Lay P τ (.inl t) → Cmp P τ (.inl t) = true → RepD w O τ x u → RepD w O' τ y v → (Op.equalIn d t u v).run P w = .ok (eqb τ x y) w) ∧
    (∀ (fs : List Field) (off : Nat) (x y : τ.T) (pre pre' cs ds : List Value), Lay P τ (.inr (fs, off)) → Cmp P τ (.inr fs) = true → RepC w O τ x cs → RepC w O' τ y ds → pre.length = off → pre'.length = off →
      (Op.eqFields d (pre ++ cs).toArray (pre' ++ ds).toArray fs).run P w = .ok (eqb τ x y) w) := by
  intro τ
  induction τ with
  | bool =>
    intro d hd
    obtain ⟨d, rfl⟩ : ∃ e, d = e + 1 := ⟨d - 1, by simp [Ty.depth] at hd; omega⟩
    refine ⟨fun t x y u v hl hc hx hy => ?_, fun fs off x y pre pre' cs ds hl => absurd hl (by simp [Lay])⟩
    have h1 := (RepD.scalar rfl).1 hx
    have h2 := (RepD.scalar rfl).1 hy
    simp only [RepC, List.cons.injEq, and_true] at h1 h2
    subst h1; subst h2
    rw [run_equalIn_bool' w d t _ _ hl.1]
    congr 1
    exact eqb_of (by simp)
  | int k =>
    intro d hd
    obtain ⟨d, rfl⟩ : ∃ e, d = e + 1 := ⟨d - 1, by simp [Ty.depth] at hd; omega⟩
    refine ⟨fun t x y u v hl hc hx hy => ?_, fun fs off x y pre pre' cs ds hl => absurd hl (by simp [Lay])⟩
    have h1 := (RepD.scalar rfl).1 hx
    have h2 := (RepD.scalar rfl).1 hy
    simp only [RepC, List.cons.injEq, and_true] at h1 h2
    subst h1; subst h2
    rw [run_equalIn_int w d t _ k _ _ hl.1]
    congr 1
    exact eqb_of (by rw [beq_iff_eq]; exact encI_inj)
  | str =>
    intro d hd
    obtain ⟨d, rfl⟩ : ∃ e, d = e + 1 := ⟨d - 1, by simp [Ty.depth] at hd; omega⟩
    refine ⟨fun t x y u v hl hc hx hy => ?_, fun fs off x y pre pre' cs ds hl => absurd hl (by simp [Lay])⟩
    have h1 := ((RepD.scalar rfl).1 hx).1
    have h2 := ((RepD.scalar rfl).1 hy).1
    simp only [List.cons.injEq, and_true] at h1 h2
    subst h1; subst h2
    rw [run_equalIn_string w d t _ _ hl.1]
    congr 1
    rw [ByteArray.toList_eq, ByteArray.toList_eq]
    exact eqb_of (by simp)
  | unit =>
    intro d hd
    obtain ⟨d, rfl⟩ : ∃ e, d = e + 1 := ⟨d - 1, by simp [Ty.depth] at hd; omega⟩
    refine ⟨fun t x y u v hl hc hx hy => ?_, fun fs off x y pre pre' cs ds hl hc hx hy hp hq => ?_⟩
    · obtain ⟨fs, hu, hi, hf⟩ := hl
      obtain ⟨cs, rfl, hx⟩ := (RepD.agg rfl).1 hx
      obtain ⟨ds, rfl, hy⟩ := (RepD.agg rfl).1 hy
      simp only [Cmp, Bool.not_eq_true'] at hc
      have hfs : P.fieldsOf t = fs := by simp [Program.fieldsOf, hu]
      rw [run_equalIn_struct w d t _ _ (hfs ▸ hu) hc, hfs, hf]
      simp only [Op.eqFields, Sem.run_pure]
      congr 1
      exact (eqb_iff.2 rfl).symm
    · have : fs = [] := hl
      subst this
      simp only [Op.eqFields, Sem.run_pure]
      congr 1
      exact (eqb_iff.2 rfl).symm
  | pair a b iha ihb =>
    have key : ∀ d, (Ty.pair a b).depth ≤ d + 1 → ∀ (fs : List Field) (off : Nat) (x y : (Ty.pair a b).T) (pre pre' cs ds : List Value), Lay P (.pair a b) (.inr (fs, off)) → Cmp P (.pair a b) (.inr fs) = true → RepC w O (.pair a b) x cs → RepC w O' (.pair a b) y ds → pre.length = off → pre'.length = off →
      (Op.eqFields d (pre ++ cs).toArray (pre' ++ ds).toArray fs).run P w = .ok (eqb (.pair a b) x y) w := by
      intro d hd fs off x y pre pre' cs ds hl hc hx hy hp hq
      simp only [Ty.depth] at hd
      obtain ⟨f, r, h1, h2, h3, h4⟩ := hl
      simp only at h1 h2 h4
      subst h1
      simp only [Cmp, Bool.and_eq_true, decide_eq_true_eq] at hc
      obtain ⟨c1, c2, rfl, hx1, hx2⟩ := hx
      obtain ⟨d1, d2, rfl, hy1, hy2⟩ := hy
      have lc := RepC.len _ _ _ hx1
      have ld := RepC.len _ _ _ hy1
      have e1 : RepC w O a x.1 (((pre ++ (c1 ++ c2)).drop f.offset).take a.size) := by
        rw [h2, ← hp, List.drop_left, ← lc, List.take_left]; exact hx1
      have e2 : RepC w O' a y.1 (((pre' ++ (d1 ++ d2)).drop f.offset).take a.size) := by
        rw [h2, ← hq, List.drop_left, ← ld, List.take_left]; exact hy1
      obtain ⟨u1, p1, q1⟩ := h3.part e1
      obtain ⟨v1, p2, q2⟩ := h3.part e2
      have := (iha d (by omega)).1 _ _ _ _ _ h3 hc.1.2 q1 q2
      have i2 := (ihb d (by omega)).2 r (off + a.size) x.2 y.2 (pre ++ c1) (pre' ++ d1) c2 d2 h4 hc.2 hx2 hy2 (by simp [hp, lc]) (by simp [hq, ld])
      simp only [List.append_assoc] at i2
      simp only [Op.eqFields, ne_eq, hc.1.1, not_false_eq_true, if_true, Sem.run_bind, p1, p2, this, Result.andThen_ok]
      cases he : eqb a x.1 y.1 with
      | true =>
        simp only [Bool.not_true, Bool.false_eq_true, if_false, i2]
        congr 1
        refine eqb_of ?_
        rw [eqb_iff]
        have := eqb_iff.1 he
        constructor
        · intro h; exact Prod.ext this h
        · intro h; rw [h]
      | false =>
        simp only [Bool.not_false, if_true, Sem.run_pure]
        congr 1
        refine eqb_of ?_
        constructor
        · intro h; cases h
        · intro h; rw [h, eqb_self] at he; cases he
    intro d hd
    obtain ⟨d, rfl⟩ : ∃ e, d = e + 1 := ⟨d - 1, by simp [Ty.depth] at hd; omega⟩
    refine ⟨fun t x y u v hl hc hx hy => ?_, fun fs off x y pre pre' cs ds hl hc hx hy hp hq => key (d + 1) (by omega) fs off x y pre pre' cs ds hl hc hx hy hp hq⟩
    obtain ⟨fs, hu, hi, f, r, h1, h2, h3, h4⟩ := hl
    obtain ⟨cs, rfl, hx'⟩ := (RepD.agg rfl).1 hx
    obtain ⟨ds, rfl, hy'⟩ := (RepD.agg rfl).1 hy
    simp only [Cmp, Bool.and_eq_true, Bool.not_eq_true', hu, h1] at hc
    have hfs : P.fieldsOf t = fs := by simp [Program.fieldsOf, hu]
    rw [run_equalIn_struct w d t _ _ (hfs ▸ hu) hc.1, hfs]
    exact key d hd fs.toList 0 x y [] [] cs ds ⟨f, r, h1, h2, h3, by simpa using h4⟩ (by simp only [Cmp, h1, Bool.and_eq_true]; exact hc.2) hx' hy' rfl rfl
  | arr n e ih =>
    intro d hd
    obtain ⟨d, rfl⟩ : ∃ e, d = e + 1 := ⟨d - 1, by simp [Ty.depth] at hd; omega⟩
    refine ⟨fun t x y u v hl hc hx hy => ?_, fun fs off x y pre pre' cs ds hl => absurd hl (by simp [Lay])⟩
    obtain ⟨te, hu, hi, hte⟩ := hl
    obtain ⟨cs, rfl, hx0, hx⟩ := (RepD.agg rfl).1 hx
    obtain ⟨ds, rfl, hy0, hy⟩ := (RepD.agg rfl).1 hy
    simp only [Cmp, hu] at hc
    obtain ⟨i, z, hinf, hsz, _⟩ := hte.info
    have hce : P.cellsOf te = e.size := by simp [Program.cellsOf, hinf, hsz]
    rw [run_equalIn_array w d _ _ hu hinf, hce]
    have key : ∀ (m k : Nat), k + m = n → (Op.eqItems d te e.size cs.toArray ds.toArray (List.range' k m)).run P w = .ok (eqb (.arr m e) (List.drop k x) (List.drop k y)) w := by
      intro m
      induction m with
      | zero =>
        intro k hk
        simp only [List.range'_zero, Op.eqItems, Sem.run_pure]
        congr 1
        refine (eqb_iff.2 ?_).symm
        rw [List.drop_eq_nil_of_le (by omega), List.drop_eq_nil_of_le (by omega)]
      | succ m ihm =>
        intro k hk
        have hkx : k < List.length x := by omega
        have hky : k < List.length y := by omega
        have nx := hx.nth (fun x c => RepC.len e x c) (List.getElem?_eq_getElem hkx)
        have ny := hy.nth (fun x c => RepC.len e x c) (List.getElem?_eq_getElem hky)
        obtain ⟨u1, p1, q1⟩ := hte.part nx
        obtain ⟨v1, p2, q2⟩ := hte.part ny
        have he := (ih d (by simp [Ty.depth] at hd; omega)).1 _ _ _ _ _ hte hc q1 q2
        rw [List.range'_succ]
        simp only [Op.eqItems, Sem.run_bind, p1, p2, he, Result.andThen_ok]
        have dx : List.drop k x = (x[k]'hkx) :: List.drop (k + 1) x := List.drop_eq_getElem_cons hkx
        have dy : List.drop k y = (y[k]'hky) :: List.drop (k + 1) y := List.drop_eq_getElem_cons hky
        cases hb : eqb e (x[k]'hkx) (y[k]'hky) with
        | true =>
          simp only [Bool.not_true, Bool.false_eq_true, if_false, ihm (k + 1) (by omega)]
          congr 1
          refine eqb_of ?_
          rw [eqb_iff, dx, dy, eqb_iff.1 hb]
          constructor
          · intro h; rw [h]
          · intro h; exact (List.cons.inj h).2
        | false =>
          simp only [Bool.not_false, if_true, Sem.run_pure]
          congr 1
          refine eqb_of ?_
          constructor
          · intro h; cases h
          · intro h
            rw [dx, dy] at h
            rw [(List.cons.inj h).1, eqb_self] at hb
            cases hb
    have := key n 0 (by omega)
    rw [List.range_eq_range']
    exact this
  | _ => intro d hd; exact ⟨fun t x y u v hl hc => absurd hc (by simp [Cmp]), fun fs off x y pre pre' cs ds hl => absurd hl (by simp [Lay])⟩
end
end Go.Proofs.YtpepbnieocdpbaaDoor
