/-
  Operations that read and compute: the model's operation yields what stands for the plain value (fourth part: lengths, slices, literals; all of them together). No program is read here.
-/
import Derived.Test.YtpepbnieocdpbaaDoorAbsOpC
namespace Go.Proofs.YtpepbnieocdpbaaDoor
open Go Go.RowKit
set_option linter.unusedSimpArgs false
set_option linter.unusedVariables false

section
variable {P : Program} {w : World} {O O' : Nat → Prop} {β : Nat → Value} {T : Tbl} {Q : List TypeId} {E : Owns} {F : Frame} {B : Nat} {a : Act}

theorem repD_repV {t : Ty} {x : t.T} {u : Value} (h : RepD w O t x u) : RepV w O β t x u := by
  cases t <;> first | exact h | exact absurd ((RepD.scalar rfl).1 h) (by simp [RepC])
theorem extract_yields {va : V} {n : Nat} {v : V} (h : tupV n va.t va.x = some v) {ua : Value} (ha : RepV w O β va.t va.x ua) : Yields P (Instr.extract ua n) w O β v := by
  obtain ⟨ta, xa⟩ := va
  cases ta <;> first | (cases n <;> cases h; done) | skip
  obtain ⟨vs, rfl, h1⟩ := ha
  obtain ⟨u, h2, h3⟩ := tupV_spec n _ _ v vs h h1
  refine .still (u := u) ?_ (repD_repV h3)
  unfold Instr.extract
  simp [h2]
theorem lenV_yields (hT : TOk P T Q) {xt : TypeId} {va : V} {r : List Prop × V} (h : lenV T xt va = some r) {ua : Value} (ha : RepV w O' β va.t va.x ua) (ty : TypeId) : Yields P (Builtin.len_ #[xt] ty #[ua]) w O β r.2 := by
  obtain ⟨ta, xa⟩ := va
  unfold lenV at h
  split at h
  · rename_i l hv
    obtain ⟨rfl, hv⟩ := V.mk.inj hv
    cases hv
    split at h
    · rename_i hs
      cases h
      obtain ⟨e, _⟩ := RepV.str ha
      subst e
      have hsz : (⟨List.toArray l⟩ : ByteArray).size = List.length l := by simp [ByteArray.size]
      refine .still (u := .int .i64 ((List.length l : Nat) : Int)) ?_ (RepV.ofInt (k := .i64))
      unfold Builtin.len_
      simp [Sem.run_bind, run_underlying (hT.is hs).1, goInt, hsz]
    · cases h
  · rename_i t l hv
    obtain ⟨rfl, hv⟩ := V.mk.inj hv
    cases hv
    split at h
    · rename_i hs
      cases h
      obtain ⟨te, hu, _⟩ := hT.is hs
      obtain ⟨A, c, e, _⟩ := (RepV.slice ha).nlen
      subst e
      refine .still (u := .int .i64 ((List.length l : Nat) : Int)) ?_ (RepV.ofInt (k := .i64))
      unfold Builtin.len_
      simp [Sem.run_bind, run_underlying hu, goInt]
    · cases h
  · rename_i n t l hv
    obtain ⟨rfl, hv⟩ := V.mk.inj hv
    cases hv
    split at h
    · rename_i hs
      cases h
      obtain ⟨te, hu, _⟩ := hT.is hs
      refine .still (u := .int .i64 ((n : Nat) : Int)) ?_ (RepV.ofInt (k := .i64))
      unfold Builtin.len_
      simp [Sem.run_bind, run_underlying hu, goInt]
    · cases h
  · cases h

/-! ### slices -/
theorem sliceBound_run {k : IntKind} {i : Int} {y : Nat} {c : BoundsCode} (h0 : 0 ≤ i) (h1 : i ≤ y) : (Instr.sliceBound (.int k i) y c).run P w = .ok i.toNat w := by
  unfold Instr.sliceBound
  simp [Sem.run_bind, asIntOf_int, h0, h1]
/-- the bounds of a cut -/
theorem cut_bounds {α : Type} {xs : List α} {lo hi : Option V} {r : List Prop × List α} (h : cutL xs lo hi = some r) (hp : allP r.1) {ul uh : Option Value} (hl : ∀ v, lo = some v → ∃ u, ul = some u ∧ RepV w O β v.t v.x u) (hl0 : lo = none → ul = none)
    (hh : ∀ v, hi = some v → ∃ u, uh = some u ∧ RepV w O β v.t v.x u) (hh0 : hi = none → uh = none) (b : Bool) {cap : Nat} (hc : xs.length ≤ cap) :
    ∃ i j, i ≤ j ∧ j ≤ xs.length ∧ r.2 = (xs.take j).drop i ∧ (Instr.sliceBounds b xs.length cap ul uh none).run P w = .ok (i, j, cap) w := by
  cases lo with
  | none =>
    have := hl0 rfl; subst this
    cases hi with
    | none =>
      have := hh0 rfl; subst this
      cases h
      exact ⟨0, xs.length, by omega, by omega, by simp, by simp [Instr.sliceBounds]⟩
    | some v =>
      obtain ⟨u, rfl, hu⟩ := hh v rfl
      simp only [cutL] at h
      split at h
      · rename_i x hx
        cases h
        obtain ⟨k, rfl⟩ := numV_rep hx hu
        obtain ⟨h0, h1⟩ := hp
        have h1 : x ≤ (xs.length : Int) := h1
        refine ⟨0, x.toNat, by omega, by omega, by simp, ?_⟩
        have hb := sliceBound_run (P := P) (w := w) (k := k) (y := cap) (c := if b then .sliceAcap else .sliceAlen) h0 (by omega)
        simp only [Instr.sliceBounds, Sem.run_bind, Sem.run_pure, Result.andThen_ok, hb]
      · cases h
  | some v =>
    obtain ⟨u, rfl, hu⟩ := hl v rfl
    cases hi with
    | none =>
      have := hh0 rfl; subst this
      simp only [cutL] at h
      split at h
      · rename_i x hx
        cases h
        obtain ⟨k, rfl⟩ := numV_rep hx hu
        obtain ⟨h0, h1⟩ := hp
        have h1 : x ≤ (xs.length : Int) := h1
        refine ⟨x.toNat, xs.length, by omega, by omega, by simp, ?_⟩
        have hb := sliceBound_run (P := P) (w := w) (k := k) (y := xs.length) (c := .sliceB) h0 (by omega)
        simp only [Instr.sliceBounds, Sem.run_bind, Sem.run_pure, Result.andThen_ok, Option.isSome_none, Bool.false_eq_true, if_false, hb]
      · cases h
    | some v' =>
      obtain ⟨u', rfl, hu'⟩ := hh v' rfl
      simp only [cutL] at h
      split at h
      · rename_i x x' hx hx'
        cases h
        obtain ⟨k, rfl⟩ := numV_rep hx hu
        obtain ⟨l, rfl⟩ := numV_rep hx' hu'
        obtain ⟨h0, h1, h2⟩ := hp
        have h2 : x' ≤ (xs.length : Int) := h2
        refine ⟨x.toNat, x'.toNat, by omega, by omega, by simp, ?_⟩
        have hb := sliceBound_run (P := P) (w := w) (k := l) (y := cap) (c := if b then .sliceAcap else .sliceAlen) (show 0 ≤ x' by omega) (by omega)
        have hb' := sliceBound_run (P := P) (w := w) (k := k) (y := x'.toNat) (c := .sliceB) h0 (by omega)
        simp only [Instr.sliceBounds, Sem.run_bind, Sem.run_pure, Result.andThen_ok, Option.isSome_none, Bool.false_eq_true, if_false, hb, hb']
      · cases h
theorem sliceV_yields (hT : TOk P T Q) {xt : TypeId} {va : V} {lo hi : Option V} {r : List Prop × V} (h : sliceV T xt va lo hi = some r) (hp : allP r.1) {ua : Value} (ha : RepV w O β va.t va.x ua) {ul uh : Option Value}
    (hl : ∀ v, lo = some v → ∃ u, ul = some u ∧ RepV w O β v.t v.x u) (hl0 : lo = none → ul = none)
    (hh : ∀ v, hi = some v → ∃ u, uh = some u ∧ RepV w O β v.t v.x u) (hh0 : hi = none → uh = none) : Yields P (Instr.sliceAt xt ua ul uh none) w O β r.2 := by
  obtain ⟨ta, xa⟩ := va
  unfold sliceV at h
  split at h
  · rename_i l hv
    obtain ⟨rfl, hv⟩ := V.mk.inj hv
    cases hv
    split at h
    · rename_i hs
      obtain ⟨q, h1, rfl⟩ := asT_some h
      have ha : RepV w O β .str l ua := ha
      obtain ⟨e, hlen⟩ := RepV.str ha
      subst e
      have hsz : (⟨List.toArray l⟩ : ByteArray).size = List.length l := by simp [ByteArray.size]
      obtain ⟨i, j, h2, h3, h4, h5⟩ := cut_bounds (P := P) h1 hp hl hl0 hh hh0 false (cap := List.length l) (Nat.le_refl _)
      refine .still (u := .string ⟨(q.2 : List UInt8).toArray⟩) ?_ (RepV.ofStr (by rw [h4]; simp; omega))
      have hu := (hT.is hs).1
      unfold Instr.sliceAt Instr.slice
      simp only [Sem.run_bind, run_underlying hu, Result.andThen_ok, Option.isSome_none, Bool.false_eq_true, if_false, Sem.run_pure, hsz, h5]
      congr 2
      have e2 : ByteArray.extract ⟨List.toArray l⟩ i j = ⟨(List.toArray l).extract i j⟩ := by
        have := ByteArray.data_extract (a := ⟨List.toArray l⟩) (b := i) (e := j)
        cases hE : ByteArray.extract ⟨List.toArray l⟩ i j with
        | mk d => rw [hE] at this; simp only at this; rw [this]
      rw [e2, h4]
      congr 1
      simp [List.extract_eq_take_drop, List.drop_take]
    · cases h
  · rename_i t xs hv
    obtain ⟨rfl, hv⟩ := V.mk.inj hv
    cases hv
    split at h
    · rename_i hs
      obtain ⟨q, h1, rfl⟩ := asT_some h
      obtain ⟨te, hu, _, hte⟩ := hT.is hs
      show Yields P _ w O β ⟨.slice t, q.2⟩
      have key : ∀ A c, xs.length ≤ c → ∃ i j, i ≤ j ∧ j ≤ xs.length ∧ q.2 = (xs.take j).drop i ∧ (Instr.sliceAt xt (.slice A xs.length c) ul uh none).run P w = .ok (.slice (if c = i then A else A.map (·.add (i * t.size))) (j - i) (c - i)) w := by
        intro A c hc
        obtain ⟨i, j, h2, h3, h4, h5⟩ := cut_bounds (P := P) h1 hp hl hl0 hh hh0 true (cap := c) hc
        refine ⟨i, j, h2, h3, h4, ?_⟩
        unfold Instr.sliceAt Instr.slice
        simp only [Sem.run_bind, run_underlying hu, Result.andThen_ok, h5, hte.sizeOf, Sem.run_pure]
      have ha : RepV w O β (.slice t) xs ua := ha
      rcases RepV.slice ha with ⟨rfl, A, c, rfl, hc⟩ | ⟨g, off, c, vs, rfl, hx, h5, h6, h7, h8, h9, h10⟩
      · obtain ⟨i, j, h2, h3, h4, hrun⟩ := key A c (by simp)
        have hj : j = 0 := by simpa using h3
        subst hj
        refine .still hrun (RepV.ofSlice (.inl ⟨by rw [h4]; simp, (if c = i then A else A.map (·.add (i * t.size))), c - i, ?_, by omega⟩))
        rw [show 0 - i = 0 by omega]
      · obtain ⟨i, j, h2, h3, h4, hrun⟩ := key _ c h5
        refine .still hrun (RepV.ofSlice ?_)
        show RepS w O (RepC w O t) q.2 _
        have hq : (q.2 : List t.T).length = j - i := by rw [h4]; simp; omega
        by_cases hij : i = j
        · subst hij
          exact .inl ⟨by rw [h4]; simp, (if c = i then some ⟨g, off, none⟩ else (some (⟨g, off, none⟩ : Addr)).map (·.add (i * t.size))), c - i, by rw [show i - i = 0 by omega], by omega⟩
        · refine .inr ⟨g, off + i * t.size, c - i, (vs.take (j * t.size)).drop (i * t.size), ?_, ?_, by omega, by omega, h7, h8, ?_, ?_⟩
          · rw [if_neg (by omega), Option.map_some, Addr.add_mid, hq]
          · intro he; rw [he] at hq; simp at hq; omega
          · rw [h4]
            exact (h9.take (fun x c => RepC.len t x c) j).drop (fun x c => RepC.len t x c) i
          · exact (h10.take _).drop _
    · cases h
  · rename_i n t xs hv
    obtain ⟨rfl, hv⟩ := V.mk.inj hv
    cases hv
    split at h
    · rename_i hs
      simp only [Bool.and_eq_true, Nat.ble_eq] at hs
      obtain ⟨q, h1, rfl⟩ := asT_some h
      obtain ⟨te, hu, _, hte⟩ := hT.is hs.1
      show Yields P _ w O β ⟨.slice t, q.2⟩
      obtain ⟨g, off, vs, rfl, h7, h8, hc, h10⟩ : RepV w O β (.vptr (.arr n t)) xs ua := ha
      obtain ⟨hxl, h9⟩ := hc
      have hxl : List.length xs = n := hxl
      obtain ⟨i, j, h2, h3, h4, h5⟩ := cut_bounds (P := P) h1 hp hl hl0 hh hh0 false (cap := List.length xs) (Nat.le_refl _)
      have hrun : (Instr.sliceAt xt (.pointer (some ⟨g, off, none⟩)) ul uh none).run P w = .ok (.slice (some (if List.length xs = i then ⟨g, off, none⟩ else (⟨g, off, none⟩ : Addr).add (i * t.size))) (j - i) (List.length xs - i)) w := by
        rw [hxl] at h5 ⊢
        unfold Instr.sliceAt
        simp only [Sem.run_bind, run_underlying hu, Result.andThen_ok, h5, hte.sizeOf, Sem.run_pure, Instr.sureAddr]
      refine .still hrun (RepV.ofSlice ?_)
      show RepS w O (RepC w O t) q.2 _
      have hq : (q.2 : List t.T).length = j - i := by rw [h4]; simp; omega
      have hmax : List.length xs ≤ maxLen := by rw [hxl]; exact Nat.le_trans hs.2 (by unfold maxLen; omega)
      by_cases hij : i = j
      · subst hij
        exact .inl ⟨by rw [h4]; simp, _, List.length xs - i, by rw [show i - i = 0 by omega], by omega⟩
      · refine .inr ⟨g, off + i * t.size, List.length xs - i, (vs.take (j * t.size)).drop (i * t.size), ?_, ?_, by omega, by omega, h7, h8, ?_, ?_⟩
        · rw [if_neg (by omega), Addr.add_mid, hq]
        · intro he; rw [he] at hq; simp at hq; omega
        · rw [h4]
          exact (h9.take (fun x c => RepC.len t x c) j).drop (fun x c => RepC.len t x c) i
        · exact (h10.take _).drop _
    · cases h
  · cases h
end
end Go.Proofs.YtpepbnieocdpbaaDoor
