/-
  Operations that read and compute: the model's operation yields what stands for the plain value (first part: operands, arithmetic, conversions, reading). No program is read here.
-/
import Derived.Test.YtpepbnieocdpbaaDoorAbsOp
import Derived.Laws.IdiomCopy
namespace Go.Proofs.YtpepbnieocdpbaaDoor
open Go Go.RowKit
set_option linter.unusedSimpArgs false
set_option linter.unusedVariables false

def Yields (P : Program) (s : Sem Value) (w : World) (O : Nat → Prop) (β : Nat → Value) (r : V) : Prop :=
  ∃ u w', s.run P w = .ok u w' ∧ Below w.heap.size w w' ∧ RepV w' O β r.t r.x u
section
variable {P : Program} {w : World} {O O' : Nat → Prop} {β : Nat → Value} {T : Tbl} {Q : List TypeId} {E : Owns} {F : Frame} {B : Nat} {a : Act}

theorem Yields.still {s : Sem Value} {r : V} {u : Value} (h : s.run P w = .ok u w) (hr : RepV w O β r.t r.x u) : Yields P s w O β r := ⟨u, w, h, Below.refl _ _, hr⟩
theorem repV_data {t : Ty} (ht : t.data = true) {x : t.T} {u : Value} : RepV w O β t x u ↔ RepD w O t x u := by
  cases t <;> first | exact Iff.rfl | cases ht
theorem evO_rep {x : Operand} (hx : ∀ s, x = .tmp s → RepV w O β (Frame.get F s).t (Frame.get F s).x (a.tmps.getD s undef)) : RepV w O β (evO F x).t (evO F x).x (a.eval x) := by
  cases x with
  | tmp s => exact hx s rfl
  | global g => exact rfl
  | func f => exact rfl
  | const v =>
    show RepV w O β (evC v).t (evC v).x v
    cases v with
    | bool b => exact rfl
    | int k n =>
      have key : ∀ (k : IntKind) (x : IntT k), RepV w O β (if encI k x = n then (⟨.int k, x⟩ : V) else ⟨.lit, .int k n⟩).t (if encI k x = n then (⟨.int k, x⟩ : V) else ⟨.lit, .int k n⟩).x (.int k n) := by
        intro k x
        by_cases h : encI k x = n
        · rw [show (if encI k x = n then (⟨.int k, x⟩ : V) else ⟨.lit, .int k n⟩) = ⟨.int k, x⟩ from if_pos h]
          show [Value.int k n] = [Value.int k (encI k x)]
          rw [h]
        · rw [show (if encI k x = n then (⟨.int k, x⟩ : V) else ⟨.lit, .int k n⟩) = ⟨.lit, .int k n⟩ from if_neg h]
          exact rfl
      cases k with
      | u8 => exact key .u8 _
      | u16 => exact key .u16 _
      | u32 => exact key .u32 _
      | u64 => exact key .u64 _
      | i8 => exact (rfl : [Value.int .i8 n] = [Value.int .i8 n])
      | i16 => exact (rfl : [Value.int .i16 n] = [Value.int .i16 n])
      | i32 => exact (rfl : [Value.int .i32 n] = [Value.int .i32 n])
      | i64 => exact (rfl : [Value.int .i64 n] = [Value.int .i64 n])
    | string s =>
      simp only [evC]
      cases h : Nat.ble s.data.toList.length 1000000 with
      | true =>
        have := Nat.le_of_ble_eq_true h
        exact ⟨by simp, Nat.le_trans this (by simp [maxLen])⟩
      | false => exact rfl
    | _ => exact rfl
theorem strip_rep {v : V} {u : Value} (h : RepV w O β v.t v.x u) (hp : allP (strip v).1) : RepV w O β (strip v).2.t (strip v).2.x u := by
  obtain ⟨t, x⟩ := v
  cases t <;> first | exact h | exact h.1 hp
/-- by the plain list, whoever may write -/
theorem dat_rep (hown : ∀ i o, Owns.get E i = some o → OwnRep w O B (β i) o) {v : V} {u : Value} (h : RepV w O β v.t v.x u) : RepV w (fun _ => False) β (dat E v).t (dat E v).x u := by
  have hk : Keeps w w O (fun _ => False) := ⟨Nat.le_refl _, fun _ _ _ => rfl, fun _ _ h => h.elim⟩
  obtain ⟨t, x⟩ := v
  cases t with
  | obuf t =>
    have h' : u = β x := h
    subst h'
    cases he : Owns.get E x with
    | none =>
      have e : dat E ⟨.obuf t, x⟩ = ⟨.junk, ()⟩ := by simp only [dat, he]
      rw [e]; trivial
    | some o =>
      cases o with
      | box t' x' =>
        have e : dat E ⟨.obuf t, x⟩ = ⟨.junk, ()⟩ := by simp only [dat, he]
        rw [e]; trivial
      | buf te t' xs =>
        have e : dat E ⟨.obuf t, x⟩ = ⟨.slice t', xs⟩ := by simp only [dat, he]
        rw [e]
        exact (hown x _ he).view (fun _ _ h => h.elim) (fun _ _ h => h.elim)
  | _ => exact RepV.keep hk _ _ _ h
theorem RepV.bool {b : Bool} {u : Value} (h : RepV w O β .bool b u) : u = .bool b := by
  have h' : [u] = [Value.bool b] := h
  simpa using h'
theorem RepV.int {k : IntKind} {x : IntT k} {u : Value} (h : RepV w O β (.int k) x u) : u = .int k (encI k x) := by
  have h' : [u] = [Value.int k (encI k x)] := h
  simpa using h'
theorem RepV.str {l : List UInt8} {u : Value} (h : RepV w O β .str l u) : u = .string ⟨l.toArray⟩ ∧ l.length ≤ maxLen := by
  have h' : [u] = [Value.string ⟨l.toArray⟩] ∧ l.length ≤ maxLen := h
  exact ⟨by simpa using h'.1, h'.2⟩
theorem RepV.ofBool {b : Bool} : RepV w O β .bool b (.bool b) := (rfl : [Value.bool b] = [Value.bool b])
theorem RepV.ofInt {k : IntKind} {x : IntT k} : RepV w O β (.int k) x (.int k (encI k x)) := (rfl : [Value.int k (encI k x)] = [Value.int k (encI k x)])
theorem RepV.ofStr {l : List UInt8} (h : l.length ≤ maxLen) : RepV w O β .str l (.string ⟨l.toArray⟩) := (⟨rfl, h⟩ : [Value.string ⟨l.toArray⟩] = [Value.string ⟨l.toArray⟩] ∧ l.length ≤ maxLen)
theorem rep_cast {t s : Ty} (h : s = t) {x : s.T} {u : Value} (hr : RepV w O β s x u) : RepV w O β t (h ▸ x) u := by subst h; exact hr
theorem castO_spec {s t : Ty} {x : s.T} {e : Option (PLift (s = t))} {y : t.T} (h : castO s t x e = some y) : (⟨s, x⟩ : V) = ⟨t, y⟩ := by
  cases e with
  | none => cases h
  | some e => obtain ⟨e⟩ := e; subst e; cases h; rfl
theorem nilAs_spec {t : Ty} {v : V} {y : t.T} (h : nilAs t v = some y) : v = ⟨.lit, .slice none 0 0⟩ ∧ ∃ τ, (⟨t, y⟩ : V) = ⟨.slice τ, []⟩ := by
  obtain ⟨s, x⟩ := v
  cases t <;> first | (cases h; done) | skip
  rename_i τ
  cases s <;> first | (cases h; done) | skip
  cases x <;> first | (cases h; done) | skip
  rename_i A m c
  cases A <;> first | (cases h; done) | skip
  cases m <;> first | (cases h; done) | skip
  cases c <;> first | (cases h; done) | skip
  cases h
  exact ⟨rfl, τ, rfl⟩
theorem coe_spec {t : Ty} {v : V} {y : t.T} (h : coe t v = some y) : v = ⟨t, y⟩ ∨ (v = ⟨.lit, .slice none 0 0⟩ ∧ ∃ τ, (⟨t, y⟩ : V) = ⟨.slice τ, []⟩) := by
  obtain ⟨s, x⟩ := v
  simp only [coe] at h
  generalize tyEq? s t = e at h
  cases e with
  | some e =>
    obtain ⟨e⟩ := e
    subst e
    cases h
    exact .inl rfl
  | none =>
    refine .inr ?_
    exact nilAs_spec h
theorem coe_rep {t : Ty} (ht : t.data = true) {v : V} {y : t.T} (h : coe t v = some y) {u : Value} (hr : RepV w O β v.t v.x u) : RepD w O t y u := by
  rcases coe_spec h with rfl | ⟨rfl, τ, he⟩
  · exact (repV_data ht).1 hr
  · cases he
    have : u = .slice none 0 0 := hr
    subst this
    exact (RepD.scalar rfl).2 ⟨_, rfl, .inl ⟨rfl, none, 0, rfl, by simp⟩⟩
theorem pre_some {A : List Prop} {o : Option (List Prop × V)} {r : List Prop × V} (h : pre A o = some r) : ∃ q, o = some q ∧ (A ++ q.1, q.2) = r := by
  induction A generalizing r with
  | nil => exact ⟨r, h, rfl⟩
  | cons a A ih =>
    simp only [pre] at h
    split at h <;> first | (cases h; done) | skip
    rename_i p v hp
    cases h
    obtain ⟨q, h1, h2⟩ := ih hp
    cases h2
    exact ⟨q, h1, rfl⟩
theorem asI_some {k : IntKind} {o : Option (List Prop × IntT k)} {r : List Prop × V} (h : asI k o = some r) : ∃ q, o = some q ∧ (q.1, (⟨.int k, q.2⟩ : V)) = r := by
  cases o with
  | none => cases h
  | some q => obtain ⟨p, v⟩ := q; cases h; exact ⟨(p, v), rfl, rfl⟩
theorem asT_some {t : Ty} {o : Option (List Prop × t.T)} {r : List Prop × V} (h : asT t o = some r) : ∃ q, o = some q ∧ (q.1, (⟨t, q.2⟩ : V)) = r := by
  cases o with
  | none => cases h
  | some q => obtain ⟨p, v⟩ := q; cases h; exact ⟨(p, v), rfl, rfl⟩
theorem asBool'_some {o : Option Bool} {r : List Prop × V} (h : asBool' o = some r) : ∃ b, o = some b ∧ (([] : List Prop), (⟨.bool, b⟩ : V)) = r := by
  cases o with
  | none => cases h
  | some b => cases h; exact ⟨b, rfl, rfl⟩
theorem withP_some {p : List Prop} {o : Option V} {r : List Prop × V} (h : withP p o = some r) : ∃ v, o = some v ∧ (p, v) = r := by
  cases o with
  | none => cases h
  | some b => cases h; exact ⟨b, rfl, rfl⟩
theorem numV_rep {v : V} {i : Int} (h : numV v = some i) {u : Value} (hr : RepV w O β v.t v.x u) : ∃ k, u = .int k i := by
  obtain ⟨t, x⟩ := v
  cases t <;> simp only [numV, reduceCtorEq] at h
  rw [encS_eq] at h
  cases h
  exact ⟨_, RepV.int hr⟩

/-! ### pick -/
theorem allP_impP {c : Bool} {l : List Prop} (h : allP (impP c l)) (hc : c = true) : allP l := by
  cases l with
  | nil => trivial
  | cons p r => exact h hc
theorem pickB_rep {cb : Bool} {va vb : V} {r : List Prop × V} (h : pickB cb va vb = some r) (hp : allP r.1) {ua ub : Value}
    (ha : RepV w O β va.t va.x ua) (hb : RepV w O β vb.t vb.x ub) : RepV w O β r.2.t r.2.x (if cb then ua else ub) := by
  unfold pickB at h
  have h1 : ∀ p a', strip va = (p, a') → allP (impP cb p) → (cb = true → RepV w O β a'.t a'.x ua) := fun p a' he hi hcb => by
    have := strip_rep ha (by rw [he]; exact allP_impP hi hcb)
    rwa [he] at this
  have h2 : ∀ p b', strip vb = (p, b') → allP (impP (!cb) p) → (cb = false → RepV w O β b'.t b'.x ub) := fun p b' he hi hcb => by
    have := strip_rep hb (by rw [he]; exact allP_impP hi (by simp [hcb]))
    rwa [he] at this
  generalize hx : strip va = sa at h
  generalize hy : strip vb = sb at h
  obtain ⟨p, s, x⟩ := sa
  obtain ⟨q, t, y⟩ := sb
  obtain ⟨r1, g1, rfl⟩ := pre_some h
  obtain ⟨r2, g2, rfl⟩ := pre_some g1
  simp only [allP_append] at hp
  generalize tyEq? t s = e at g2
  cases e with
  | none => cases g2
  | some e =>
    obtain ⟨e⟩ := e
    subst e
    cases g2
    cases hcb : cb with
    | true => exact h1 _ _ hx hp.1 hcb
    | false => exact h2 _ _ hy hp.2.1 hcb
theorem pickV_rep {c va vb : V} {r : List Prop × V} (h : pickV c va vb = some r) (hp : allP r.1) {uc ua ub : Value} (hc : RepV w O β c.t c.x uc)
    (ha : RepV w O β va.t va.x ua) (hb : RepV w O β vb.t vb.x ub) :
    ∃ b : Bool, uc = .bool b ∧ RepV w O β r.2.t r.2.x (if b then ua else ub) := by
  obtain ⟨tc, cb⟩ := c
  cases tc with
  | bool => exact ⟨cb, RepV.bool hc, pickB_rep h hp ha hb⟩
  | cond t =>
    cases t with
    | bool =>
      obtain ⟨k, cb⟩ := cb
      obtain ⟨r1, g1, rfl⟩ := pre_some (A := [k = true]) (o := pickB cb va vb) h
      simp only [allP_append] at hp
      exact ⟨cb, RepV.bool (hc.1 hp.1), pickB_rep g1 hp.2 ha hb⟩
    | _ => cases h
  | _ => cases h

/-! ### arithmetic -/
theorem eqGuard_other {op : BinOp} {t : TypeId} {x y : Operand} {u v : Value} (h1 : ∀ cs, u ≠ .agg cs) (h2 : u ≠ .nilIface) : (eqGuard op t x y u v).run P w = .ok () w := by
  unfold eqGuard
  cases op <;> simp only [Bool.not_false, Bool.not_true, if_true, Bool.false_eq_true, if_false] <;> first
    | rfl
    | (cases u <;> first | rfl | exact absurd rfl (h1 _) | exact absurd rfl h2)
theorem guard_run {op : BinOp} {t : TypeId} {x y : Operand} {u v z : Value} (h1 : ∀ cs, u ≠ .agg cs) (h2 : u ≠ .nilIface) (h : (Go.binOp op t u v).run P w = .ok z w) :
    (do eqGuard op t x y u v; Go.binOp op t u v : Sem Value).run P w = .ok z w := by
  rw [Sem.run_bind, eqGuard_other h1 h2]
  exact h
theorem bytes_beq (x y : List UInt8) : ((⟨x.toArray⟩ : ByteArray).toList == (⟨y.toArray⟩ : ByteArray).toList) = eqb .str x y := by
  rw [ByteArray.toList_eq, ByteArray.toList_eq]
  exact eqb_of (t := .str) (by simp)
theorem bytes_toList (x : List UInt8) : (⟨x.toArray⟩ : ByteArray).toList = x := by rw [ByteArray.toList_eq]
theorem binV_yields (hT : TOk P T Q) {op : BinOp} {xt : TypeId} {x y : Operand} {va vb : V} {r : List Prop × V} (h : binV T Q op xt va vb = some r) (hp : allP r.1) {ua ub : Value}
    (ha : RepV w O β va.t va.x ua) (hb : RepV w O β vb.t vb.x ub) : Yields P (do eqGuard op xt x y ua ub; Go.binOp op xt ua ub) w O β r.2 := by
  have agg : ∀ (t s : Ty) (xa : t.T) (xb : s.T), RepV w O β t xa ua → RepV w O β s xb ub → (h0 : (t.isAgg && tis T xt t && Q.any (Nat.beq xt)) = true) →
      ∀ (he : s = t), (op = .eql → Yields P (do eqGuard op xt x y ua ub; Go.binOp op xt ua ub) w O β ⟨.bool, eqb t xa (he ▸ xb)⟩) ∧
        (op = .neq → Yields P (do eqGuard op xt x y ua ub; Go.binOp op xt ua ub) w O β ⟨.bool, !eqb t xa (he ▸ xb)⟩) := by
    intro t s xa xb ha hb h0 he
    subst he
    simp only [Bool.and_eq_true] at h0
    obtain ⟨⟨h1, h3⟩, h4⟩ := h0
    have hl := hT.is h3
    obtain ⟨hg, hc⟩ := hT.cmp _ h4
    obtain ⟨hc, hd⟩ := hc _ (tis_get h3)
    have ha' := (repV_data hl.data).1 ha
    have hb' := (repV_data hl.data).1 hb
    have hrun := ((equalIn_run (P := P) (w := w) (O := O) (O' := O) s 10000 hd).1 xt xa xb ua ub hl hc ha' hb')
    obtain ⟨cs, rfl, _⟩ := (RepD.agg h1).1 ha'
    obtain ⟨ds, rfl, _⟩ := (RepD.agg h1).1 hb'
    constructor
    · rintro rfl
      refine .still (u := .bool (eqb s xa xb)) ?_ RepV.ofBool
      rw [Sem.run_bind, run_eqGuard_agg _ _ _ _ _ _ _ hg, Result.andThen_ok]
      simp only [Go.binOp, Op.equal, Op.maxDepth, Sem.run_bind, hrun, Result.andThen_ok, Sem.run_pure]
    · rintro rfl
      refine .still (u := .bool (!eqb s xa xb)) ?_ RepV.ofBool
      rw [Sem.run_bind, run_eqGuard_agg _ _ _ _ _ _ _ hg, Result.andThen_ok]
      simp only [Go.binOp, Op.equal, Op.maxDepth, Sem.run_bind, hrun, Result.andThen_ok, Sem.run_pure]
  obtain ⟨ta, xa⟩ := va
  obtain ⟨tb, xb⟩ := vb
  unfold binV at h
  split at h
  · rename_i k xa l xb hxa hxb
    obtain ⟨rfl, hxa⟩ := V.mk.inj hxa
    obtain ⟨rfl, hxb⟩ := V.mk.inj hxb
    cases hxa
    cases hxb
    have eu := RepV.int ha
    have ev := RepV.int hb
    subst eu; subst ev
    split at h
    · rw [encS_eq] at h
      obtain ⟨q, h1, rfl⟩ := asI_some h
      exact .still (guard_run (by simp) (by simp) (shI_run (vc := q.1) (z := q.2) h1 hp)) RepV.ofInt
    · rw [encS_eq] at h
      obtain ⟨q, h1, rfl⟩ := asI_some h
      exact .still (guard_run (by simp) (by simp) (shI_run (vc := q.1) (z := q.2) h1 hp)) RepV.ofInt
    · generalize kEq? l k = e at h
      cases e with
      | none => cases h
      | some e =>
        obtain ⟨e⟩ := e
        subst e
        simp only [binI] at h
        split at h
        · rw [encS_eq, encS_eq] at h
          obtain ⟨q, h1, rfl⟩ := asBool'_some h
          exact .still (guard_run (by simp) (by simp) (cmpI_run h1)) RepV.ofBool
        · obtain ⟨q, h1, rfl⟩ := asI_some h
          exact .still (guard_run (by simp) (by simp) (arI_run (vc := q.1) (z := q.2) h1 hp)) RepV.ofInt
  · rename_i xa xb hxa hxb
    obtain ⟨rfl, hxa⟩ := V.mk.inj hxa
    obtain ⟨rfl, hxb⟩ := V.mk.inj hxb
    cases hxa
    cases hxb
    obtain ⟨eu, _⟩ := RepV.str ha
    obtain ⟨ev, _⟩ := RepV.str hb
    subst eu; subst ev
    split at h <;> first | (cases h; done) | (cases h)
    · have hp' : List.length xa + List.length xb ≤ maxLen := hp
      refine .still (guard_run (by simp) (by simp) (?_ : _ = Result.ok (.string ⟨(xa ++ xb : List UInt8).toArray⟩) w)) (RepV.ofStr (by simpa using hp'))
      have hs : ∀ l : List UInt8, (⟨l.toArray⟩ : ByteArray).size = l.length := fun l => by simp [ByteArray.size]
      have : ¬ (((List.length xa + List.length xb : Nat) : Int) > IntKind.i64.max) := by
        simp only [maxLen, IntKind.max, IntKind.signed, IntKind.bits] at *
        simp; omega
      simp only [Go.binOp, Op.stringOp, hs, this, if_false, Sem.run_pure]
      congr 2
    · exact .still (guard_run (by simp) (by simp) (by simp only [Go.binOp, Op.stringOp, bytes_beq, Sem.run_pure])) RepV.ofBool
    · exact .still (guard_run (by simp) (by simp) (by simp only [Go.binOp, Op.stringOp, bytes_beq, Sem.run_pure])) RepV.ofBool
    · exact .still (guard_run (by simp) (by simp) (by simp only [Go.binOp, Op.stringOp, bytes_toList, Sem.run_pure])) RepV.ofBool
    · exact .still (guard_run (by simp) (by simp) (by simp only [Go.binOp, Op.stringOp, bytes_beq, Sem.run_pure]; simp only [bytes_toList])) RepV.ofBool
    · exact .still (guard_run (by simp) (by simp) (by simp only [Go.binOp, Op.stringOp, bytes_beq, Sem.run_pure]; simp only [bytes_toList])) RepV.ofBool
    · exact .still (guard_run (by simp) (by simp) (by simp only [Go.binOp, Op.stringOp, bytes_toList, Sem.run_pure])) RepV.ofBool
  · rename_i xa xb hxa hxb
    obtain ⟨rfl, hxa⟩ := V.mk.inj hxa
    obtain ⟨rfl, hxb⟩ := V.mk.inj hxb
    cases hxa
    cases hxb
    have eu := RepV.bool ha
    have ev := RepV.bool hb
    subst eu; subst ev
    have hq : tis T xt .bool = true → (Op.equal xt (.bool xa) (.bool xb)).run P w = .ok (eqb .bool xa xb) w := fun ht => by
      have := run_equalIn_bool' w 9999 xt xa xb (hT.is ht).1
      simp only [Op.equal, Op.maxDepth]
      rw [this]
      congr 1
      exact eqb_of (t := .bool) (by simp)
    split at h
    · split at h
      · rename_i ht
        cases h
        refine .still (guard_run (by simp) (by simp) ?_) RepV.ofBool
        simp only [Go.binOp, Sem.run_bind, hq ht, Result.andThen_ok, Sem.run_pure]
      · cases h
    · split at h
      · rename_i ht
        cases h
        refine .still (guard_run (by simp) (by simp) ?_) RepV.ofBool
        simp only [Go.binOp, Sem.run_bind, hq ht, Result.andThen_ok, Sem.run_pure]
      · cases h
    · cases h
  · rename_i t xa s xb hn1 hn2 hn3 hxa hxb
    obtain ⟨rfl, hxa⟩ := V.mk.inj hxa
    obtain ⟨rfl, hxb⟩ := V.mk.inj hxb
    cases hxa
    cases hxb
    split at h
    · rename_i h0
      generalize tyEq? tb ta = e at h
      cases e with
      | none => cases h
      | some e =>
        obtain ⟨e⟩ := e
        subst e
        have := agg _ _ _ _ ha hb h0 rfl
        simp only [binE] at h
        split at h
        · cases h; exact this.1 rfl
        · cases h; exact this.2 rfl
        · cases h
    · cases h
theorem unV_yields {op : UnOp} {va : V} {r : List Prop × V} (h : unV op va = some r) (hp : allP r.1) {ua : Value} (ha : RepV w O β va.t va.x ua) : Yields P (Op.unary op ua) w O β r.2 := by
  obtain ⟨ta, xa⟩ := va
  cases ta <;> simp only [unV, reduceCtorEq] at h
  · have := RepV.bool ha
    subst this
    cases op <;> simp only [reduceCtorEq] at h
    cases h
    exact .still rfl RepV.ofBool
  · have := RepV.int ha
    subst this
    obtain ⟨q, h1, rfl⟩ := asI_some h
    exact .still (unI_run (vc := q.1) (z := q.2) h1 hp) RepV.ofInt
end
end Go.Proofs.YtpepbnieocdpbaaDoor
