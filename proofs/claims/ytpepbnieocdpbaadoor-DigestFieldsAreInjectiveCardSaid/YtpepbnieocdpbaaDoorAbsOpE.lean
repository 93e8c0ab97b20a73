/-
  Operations that read and compute: the model's operation yields what stands for the plain value (fifth part: literals; all of them together). No program is read here.
-/
import Derived.Test.YtpepbnieocdpbaaDoorAbsOpD
import Derived.Great.BuildSlice
namespace Go.Proofs.YtpepbnieocdpbaaDoor
open Go Go.RowKit
set_option linter.unusedSimpArgs false
set_option linter.unusedVariables false

/-- cells laid over cells -/
def over (cs : List Value) (off : Nat) (vs : List Value) : List Value := cs.take off ++ vs ++ cs.drop (off + vs.length)
theorem foldl_over : ∀ (vs : List Value) (k off : Nat) (cs : List Value), off + k + vs.length ≤ cs.length →
    ((vs.zipIdx k).foldl (fun (c : Array Value) (p : Value × Nat) => c.setIfInBounds (off + p.2) p.1) cs.toArray) = (over cs (off + k) vs).toArray
  | [], k, off, cs, _ => by simp [over]
  | v :: vs, k, off, cs, h => by
    simp only [List.length_cons] at h
    simp only [List.zipIdx_cons, List.foldl_cons, List.setIfInBounds_toArray]
    rw [foldl_over vs (k + 1) off (cs.set (off + k) v) (by simp; omega)]
    congr 1
    unfold over
    rw [show off + (k + 1) = off + k + 1 by omega, List.take_set, List.drop_set]
    rw [if_pos (by omega)]
    simp only [List.length_cons]
    rw [show off + k + 1 + vs.length = off + k + (vs.length + 1) by omega]
    congr 1
    rw [show ((List.take (off + k + 1) cs).set (off + k) v) = List.take (off + k) cs ++ [v] by
      rw [List.take_succ_eq_append_getElem (by omega)]
      rw [List.set_append_right _ _ (by simp; omega)]
      simp
      rw [show off + k - min (off + k) cs.length = 0 by omega]
      rfl]
    simp
theorem over_length {cs vs : List Value} {off : Nat} (h : off + vs.length ≤ cs.length) : (over cs off vs).length = cs.length := by
  simp [over]; omega

section
variable {P : Program} {w : World} {O O' : Nat → Prop} {β : Nat → Value} {T : Tbl} {Q : List TypeId} {E : Owns} {F : Frame} {B : Nat} {a : Act}

theorem RepD.cells {t : Ty} {x : t.T} {u : Value} (h : RepD w O t x u) : RepC w O t x u.cells.toList := by
  unfold RepD at h
  split at h
  · obtain ⟨cs, rfl, h⟩ := h
    simpa [Value.cells] using h
  · have h1 := RepC.oneCell _ _ _ h u (by simp)
    have : u.cells = #[u] := by cases u <;> first | rfl | (simp [Value.oneCell'] at h1)
    rw [this]
    exact h
theorem fill_step {place : Nat → Option (Nat × Nat)} {cs : List Value} {i off size : Nat} {u : Value} {rest : List (Nat × Value)} (hp : place i = some (off, size)) (hs : u.cells.toList.length = size) (hl : off + size ≤ cs.length) :
    Instr.fill place cs.toArray ((i, u) :: rest) = Instr.fill place (over cs off u.cells.toList).toArray rest := by
  have hs' : u.cells.size = size := by simpa using hs
  simp only [Instr.fill, hp]
  rw [if_neg (by
    simp only [Bool.or_eq_true, decide_eq_true_eq, not_or, hs', List.size_toArray]
    exact ⟨fun h => h rfl, by omega⟩)]
  congr 1
  have := foldl_over u.cells.toList 0 off cs (by omega)
  rw [Nat.add_zero] at this
  rw [← this, ← Array.foldl_toList]
  congr 1
  simp
/-! ### structs -/
theorem setField_rep : ∀ (n : Nat) (τ : Ty) (x y : τ.T) (v : V) (u : Value) (fs : List Field) (off : Nat) (cs : List Value), setField n τ x v = some y → Lay P τ (.inr (fs, off)) → RepC w O τ x cs → RepV w O β v.t v.x u →
    ∃ f i, fs[n]? = some f ∧ P.info? f.type = some i ∧ f.offset = off + fieldOff n τ ∧ u.cells.toList.length = i.size ∧ fieldOff n τ + i.size ≤ cs.length ∧ RepC w O τ y (over cs (fieldOff n τ) u.cells.toList)
  | 0, .pair a b, x, y, v, u, fs, off, cs, h, hl, hr, hv => by
    simp only [setField] at h
    split at h <;> first | (cases h; done) | skip
    rename_i z h0
    cases h
    obtain ⟨f, r, h1, h2, h3, h4⟩ := hl
    simp only at h1 h2
    subst h1
    obtain ⟨c1, c2, rfl, h5, h6⟩ := hr
    obtain ⟨i, z', hi, hsz, _⟩ := h3.info
    have hc := (coe_rep h3.data h0 hv).cells
    have l1 := RepC.len _ _ _ h5
    have l2 := RepC.len _ _ _ hc
    refine ⟨f, i, rfl, hi, by simp [fieldOff, h2], by rw [l2, hsz], by simp [fieldOff, hsz, l1], u.cells.toList, c2, ?_, hc, h6⟩
    simp only [over, fieldOff, List.take_zero, List.nil_append, Nat.zero_add, l2, ← l1, List.drop_left]
  | n + 1, .pair a b, x, y, v, u, fs, off, cs, h, hl, hr, hv => by
    simp only [setField] at h
    split at h <;> first | (cases h; done) | skip
    rename_i z h0
    cases h
    obtain ⟨f, r, h1, h2, h3, h4⟩ := hl
    simp only at h1 h2
    subst h1
    obtain ⟨c1, c2, rfl, h5, h6⟩ := hr
    obtain ⟨f', i, g1, g2, g3, g4, g5, g6⟩ := setField_rep n b x.2 z v u r _ c2 h0 h4 h6 hv
    have l1 := RepC.len _ _ _ h5
    refine ⟨f', i, by simpa using g1, g2, by rw [g3]; simp [fieldOff, Nat.add_assoc], g4, by simp [fieldOff, l1]; omega, c1, _, ?_, h5, g6⟩
    simp only [over, fieldOff, ← l1, Nat.add_assoc]
    rw [List.take_length_add_append, List.drop_length_add_append]
    simp
  | 0, .unit, _, _, _, _, _, _, _, h, _, _, _ => by cases h
  | _ + 1, .unit, _, _, _, _, _, _, _, h, _, _, _ => by cases h
  | n, .bool, _, _, _, _, _, _, _, h, _, _, _ => by cases n <;> cases h
  | n, .int _, _, _, _, _, _, _, _, h, _, _, _ => by cases n <;> cases h
  | n, .str, _, _, _, _, _, _, _, h, _, _, _ => by cases n <;> cases h
  | n, .arr _ _, _, _, _, _, _, _, _, h, _, _, _ => by cases n <;> cases h
  | n, .slice _, _, _, _, _, _, _, _, h, _, _, _ => by cases n <;> cases h
  | n, .junk, _, _, _, _, _, _, _, h, _, _, _ => by cases n <;> cases h
  | n, .lit, _, _, _, _, _, _, _, h, _, _, _ => by cases n <;> cases h
  | n, .vptr _, _, _, _, _, _, _, _, h, _, _, _ => by cases n <;> cases h
  | n, .optr _, _, _, _, _, _, _, _, h, _, _, _ => by cases n <;> cases h
  | n, .obuf _, _, _, _, _, _, _, _, h, _, _, _ => by cases n <;> cases h
  | n, .tup _ _, _, _, _, _, _, _, _, h, _, _, _ => by cases n <;> cases h
  | n, .cond _, _, _, _, _, _, _, _, h, _, _, _ => by cases n <;> cases h
def RepPs (w : World) (O : Nat → Prop) (β : Nat → Value) : List (Nat × V) → List (Nat × Value) → Prop
  | [], us => us = []
  | (i, v) :: r, us => ∃ u s, us = (i, u) :: s ∧ RepV w O β v.t v.x u ∧ RepPs w O β r s
theorem strips_rep : ∀ {ps : List (Nat × V)} {us : List (Nat × Value)}, RepPs w O β ps us → allP (strips ps).1 → RepPs w O β (strips ps).2 us
  | [], us, h, _ => h
  | (i, v) :: r, us, h, hp => by
    obtain ⟨u, s, rfl, h1, h2⟩ := h
    simp only [strips, allP_append] at hp
    exact ⟨u, s, rfl, strip_rep h1 hp.1, strips_rep h2 hp.2⟩
theorem repPs_map {ps : List (Nat × Operand)} (hops : ∀ p ∈ ps, RepV w O β (evO F p.2).t (evO F p.2).x (a.eval p.2)) : RepPs w O β (ps.map fun p => (p.1, evO F p.2)) (ps.map fun p => (p.1, a.eval p.2)) := by
  induction ps with
  | nil => rfl
  | cons p ps ih => exact ⟨_, _, rfl, hops p (by simp), ih fun q hq => hops q (by simp [hq])⟩
theorem setParts_fill {τ : Ty} {fs : List Field} (hl : Lay P τ (.inr (fs, 0))) {place : Nat → Option (Nat × Nat)} (hpl : ∀ (n : Nat) (f : Field) (i : TypeInfo), fs[n]? = some f → P.info? f.type = some i → place n = some (f.offset, i.size)) :
    ∀ (ps : List (Nat × V)) (us : List (Nat × Value)) (x y : τ.T) (cs : List Value), RepPs w O β ps us → setParts τ x ps = some y → RepC w O τ x cs → ∃ ds : List Value, Instr.fill place cs.toArray us = some ds.toArray ∧ RepC w O τ y ds
  | [], us, x, y, cs, h, hs, hr => by
    cases h
    cases hs
    exact ⟨cs, rfl, hr⟩
  | (i, v) :: r, us, x, y, cs, h, hs, hr => by
    obtain ⟨u, s, rfl, h1, h2⟩ := h
    obtain ⟨z, h3, h4⟩ := Option.bind_eq_some_iff.1 hs
    obtain ⟨f, inf, g1, g2, g3, g4, g5, g6⟩ := setField_rep i τ x z v u fs 0 cs h3 hl hr h1
    rw [Nat.zero_add] at g3
    rw [fill_step (hpl i f inf g1 g2) g4 (by omega), g3]
    exact setParts_fill hl hpl r s z y _ h2 h4 g6
theorem places_ok : ∀ (τ : Ty) (fs : List Field) (off : Nat), Lay P τ (.inr (fs, off)) → ∃ places, fs.mapM (fun f => (P.info? f.type).map fun i => (f.offset, i.size)) = some places ∧
    ∀ (n : Nat) (f : Field) (i : TypeInfo), fs[n]? = some f → P.info? f.type = some i → places[n]? = some (f.offset, i.size) := by
  intro τ
  induction τ with
  | unit =>
    intro fs off h
    have : fs = [] := h
    subst this
    exact ⟨[], rfl, fun n f i h => by simp at h⟩
  | pair a b _ ihb =>
    rintro fs off ⟨f, r, h1, h2, h3, h4⟩
    simp only at h1 h4
    subst h1
    obtain ⟨pl, h5, h6⟩ := ihb r _ h4
    obtain ⟨i, z, hi, _⟩ := h3.info
    refine ⟨(f.offset, i.size) :: pl, by simp [List.mapM_cons, hi, h5], fun n f' i' hn hi' => ?_⟩
    cases n with
    | zero => simp at hn; subst hn; rw [hi] at hi'; cases hi'; rfl
    | succ n => exact h6 n f' i' (by simpa using hn) hi'
  | _ => intro fs off h; exact absurd h (by simp [Lay])
/-! ### arrays -/
theorem setElems_fill {e : Ty} (he : e.data = true) {place : Nat → Option (Nat × Nat)} (hpl : ∀ n, place n = some (n * e.size, e.size)) :
    ∀ (ps : List (Nat × V)) (us : List (Nat × Value)) (x y : List e.T) (cs : List Value), RepPs w O β ps us → setElems e x ps = some y → RepL (RepC w O e) x cs → ∃ ds : List Value, Instr.fill place cs.toArray us = some ds.toArray ∧ RepL (RepC w O e) y ds ∧ y.length = x.length
  | [], us, x, y, cs, h, hs, hr => by
    cases h
    cases hs
    exact ⟨cs, rfl, hr, rfl⟩
  | (i, v) :: r, us, x, y, cs, h, hs, hr => by
    obtain ⟨u, s, rfl, h1, h2⟩ := h
    simp only [setElems] at hs
    split at hs
    · rename_i hb
      have hlt : i < x.length := by simpa using hb
      obtain ⟨z, h3, h4⟩ := Option.bind_eq_some_iff.1 hs
      have hc := (coe_rep he h3 h1).cells
      have hlen := RepC.len _ _ _ hc
      have hl := hr.len (fun x c => RepC.len e x c)
      have hle : i * e.size + e.size ≤ cs.length := by
        have := Nat.mul_le_mul_right e.size (show i + 1 ≤ x.length by omega)
        rw [Nat.add_mul, Nat.one_mul] at this
        omega
      rw [fill_step (hpl i) hlen hle]
      have hset := hr.set (fun x c => RepC.len e x c) hlt hc
      rw [show over cs (i * e.size) u.cells.toList = cs.take (i * e.size) ++ u.cells.toList ++ cs.drop (i * e.size + e.size) by simp only [over, hlen]]
      obtain ⟨ds, g1, g2, g3⟩ := setElems_fill he hpl r s (x.set i z) y _ h2 h4 hset
      exact ⟨ds, g1, g2, by rw [g3]; simp⟩
    · cases hs
theorem zcells_length : ∀ (t : Ty), t.data = true → (zcells t).length = t.size := fun t h => RepC.len (w := default) (O := fun _ => False) _ _ _ (repC_zero _ _ t h)
theorem repL_zeros {e : Ty} (he : e.data = true) (n : Nat) : RepL (RepC w O e) (List.replicate n (zeroX e)) (List.replicate n (zcells e)).flatten := by
  induction n with
  | zero => rfl
  | succ n ih => exact ⟨_, _, rfl, repC_zero _ _ e he, ih⟩
theorem zeros_range (zc : Array Value) (hz : 0 < zc.size) (n : Nat) : (Array.range (n * zc.size)).map (fun i => zc[i % zc.size]!) = (List.replicate n zc.toList).flatten.toArray := by
  apply Array.toList_inj.1
  simp only [Array.toList_map, Array.toList_range]
  induction n with
  | zero => simp
  | succ n ih =>
    rw [Nat.add_mul, Nat.one_mul, List.range_add, List.map_append, ih, List.replicate_succ', List.flatten_append]
    congr 1
    simp only [List.flatten_cons, List.flatten_nil, List.append_nil, List.map_map]
    apply List.ext_getElem
    · simp
    · intro i h1 h2
      simp at h1
      simp [Nat.mul_add_mod_of_lt h1, h1]
theorem buildV_yields (hT : TOk P T Q) {t : TypeId} {ps : List (Nat × V)} {r : List Prop × V} (h : buildV T t ps = some r) (hp : allP r.1) {us : Array (Nat × Value)} (hu : RepPs w O β ps us.toList) : Yields P (Instr.build t us) w O β r.2 := by
  unfold buildV at h
  split at h
  · rename_i a b ht
    split at h <;> first | (cases h; done) | skip
    rename_i x h1
    cases h
    have hl := hT.lay _ _ ht
    have hl' := hl
    obtain ⟨fs, h2, hinf, f, rr, h3, h4, h5, h6⟩ := hl
    obtain ⟨i, z, hi, hs, hz, hzc, _⟩ := hinf
    have hlr : Lay P (.pair a b) (.inr (fs.toList, 0)) := ⟨f, rr, h3, h4, h5, by simpa using h6⟩
    obtain ⟨places, h7, h8⟩ := places_ok _ _ _ hlr
    obtain ⟨ds, g1, g2⟩ := setParts_fill hlr (place := (places.toArray[·]?)) (fun n f i hn hi => by simpa using h8 n f i hn hi) _ us.toList _ x (zcells (.pair a b)) (strips_rep hu hp) h1 (repC_zero _ _ _ hl'.data)
    refine .still (u := .agg ds.toArray) (run_build w t us _ ?_) (repD_repV ((RepD.agg rfl).2 ⟨ds, rfl, g2⟩))
    unfold Program.built
    rw [hi, h2]
    simp only [hz, h7, hzc]
    exact g1
  · rename_i n e ht
    split at h <;> first | (cases h; done) | skip
    rename_i x h1
    cases h
    obtain ⟨te, h2, hinf, hte⟩ := hT.lay _ _ ht
    obtain ⟨i, z, hi, hs, hz, hzc, _⟩ := hinf
    obtain ⟨ie, ze, hie, hse, _⟩ := hte.info
    obtain ⟨ds, g1, g2, g3⟩ := setElems_fill hte.data (place := fun i => some (i * ie.size, ie.size)) (fun n => by rw [hse]) _ us.toList _ x _ (strips_rep hu hp) h1 (repL_zeros hte.data n)
    refine .still (u := .agg ds.toArray) (run_build w t us _ ?_) (repD_repV ((RepD.agg rfl).2 ⟨ds, rfl, by rw [g3]; simp, g2⟩))
    unfold Program.built
    rw [hi, h2]
    simp only [hz, hie, hzc]
    exact g1
  · cases h
theorem buildSliceV_run (hT : TOk P T Q) {t : TypeId} {len : Nat} {ps : List (Nat × V)} {r : List Prop × (t : Ty) × List t.T} (h : buildSliceV T t len ps = some r) (hp : allP r.1) {us : Array (Nat × Value)} (hu : RepPs w O β ps us.toList) :
    ∃ ds te, P.underlying t = some (.slice te) ∧ Lay P r.2.1 (.inl te) ∧ 0 < r.2.1.size ∧ RepL (RepC w O r.2.1) r.2.2 ds ∧ r.2.2.length = len ∧ (Instr.buildSlice t len us).run P w = .ok (.slice (some ⟨w.heap.size, 0, none⟩) len len) (w.alloc (.cells ds.toArray te)) := by
  unfold buildSliceV at h
  split at h
  · rename_i e ht
    split at h
    · rename_i hb
      split at h <;> first | (cases h; done) | skip
      rename_i x h1
      cases h
      simp only [Bool.and_eq_true, Nat.ble_eq] at hb
      have hpos : 0 < e.size := by simpa using hb.2
      obtain ⟨te, h2, _, hte⟩ := hT.lay _ _ ht
      obtain ⟨ie, ze, hie, hse, hze, hzc, _⟩ := hte.info
      have hzs : ze.cells.size = e.size := by rw [hzc]; simp [zcells_length e hte.data]
      obtain ⟨ds, g1, g2, g3⟩ := setElems_fill hte.data (place := fun i => some (i * ie.size, ie.size)) (fun n => by rw [hse]) _ us.toList _ x _ (strips_rep hu hp) h1 (repL_zeros hte.data len)
      refine ⟨ds, te, h2, hte, hpos, g2, by rw [g3]; simp, ?_⟩
      have hz0 : (Array.range (len * ie.size)).map (ze.cells[· % ze.cells.size]!) = (List.replicate len (zcells e)).flatten.toArray := by
        have := zeros_range ze.cells (by omega) len
        rw [hzs] at this
        rw [hse, hzs, this, hzc]
      by_cases h0 : len = 0
      · subst h0
        simp only [List.replicate_zero, List.flatten_nil] at g1
        simp [Instr.buildSlice, run_underlying h2, Go.sizeOf, typeInfo, zeroValue, hie, hze, g1, newRow, show Array.range 0 = #[] from rfl]
      · refine run_buildSlice w t te len us _ ie ze h2 hie hze (by rw [hse]; omega) (by rw [hse]; exact Nat.mul_ne_zero h0 (by omega)) ?_
        rw [hz0]
        exact g1
    · cases h
  · cases h
theorem buildSliceV_yields (hT : TOk P T Q) (hO : ∀ g, O g → g < w.heap.size) {t : TypeId} {len : Nat} (hlen : len ≤ maxLen) {ps : List (Nat × V)} {r : List Prop × (t : Ty) × List t.T} (h : buildSliceV T t len ps = some r) (hp : allP r.1) {us : Array (Nat × Value)}
    (hu : RepPs w O β ps us.toList) : Yields P (Instr.buildSlice t len us) w O β ⟨.slice r.2.1, r.2.2⟩ := by
  obtain ⟨ds, te, _, _, _, h1, h2, h3⟩ := buildSliceV_run hT h hp hu
  refine ⟨_, _, h3, below_alloc _ _, RepV.ofSlice ?_⟩
  have := repS_new hO h1 (cap := len) (by omega) hlen (below_alloc w (.cells ds.toArray te)) (heap_alloc_new w _) (fun j u hj => by simpa using hj)
  rw [h2] at this
  exact this
theorem minV_yields {op : Builtin} (hop : op = .min ∨ op = .max) {vs : List V} {r : List Prop × V} (h : minV op vs = some r) {us : List Value} (hu : ∀ (i : Nat) (v : V), vs[i]? = some v → ∃ u, us[i]? = some u ∧ RepV w O' β v.t v.x u) (hl : us.length = vs.length) (ts : Array TypeId) (ty : TypeId) :
    (op = .min → Yields P (Builtin.min_ ts ty us.toArray) w O β r.2) ∧ (op = .max → Yields P (Builtin.max_ ts ty us.toArray) w O β r.2) := by
  unfold minV at h
  split at h
  · rename_i x y
    obtain ⟨u0, h0, e0⟩ := hu 0 _ rfl
    obtain ⟨u1, h1, e1⟩ := hu 1 _ rfl
    have e0 := RepV.int e0
    have e1 := RepV.int e1
    match us, hl with
    | [a, b], _ =>
      simp at h0 h1
      subst h0; subst h1; subst e0; subst e1
      constructor
      · rintro rfl
        cases h
        refine .still (u := .int .i64 (min (x : Int) y)) ?_ (RepV.ofInt (k := .i64))
        simp only [Builtin.min_, List.foldlM_cons, List.foldlM_nil, Builtin.min2, Sem.run_bind, Sem.run_pure, Result.andThen_ok, encI]
        congr 2
        simp only [Int.min_def]
        split <;> split <;> omega
      · rintro rfl
        cases h
        refine .still (u := .int .i64 (max (x : Int) y)) ?_ (RepV.ofInt (k := .i64))
        simp only [Builtin.max_, List.foldlM_cons, List.foldlM_nil, Builtin.max2, Sem.run_bind, Sem.run_pure, Result.andThen_ok, encI]
        congr 2
        simp only [Int.max_def]
        split <;> split <;> omega
  · cases h
end
end Go.Proofs.YtpepbnieocdpbaaDoor
