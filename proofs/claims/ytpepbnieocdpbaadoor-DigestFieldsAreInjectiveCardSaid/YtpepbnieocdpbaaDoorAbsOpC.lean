/-
  Operations that read and compute: the model's operation yields what stands for the plain value (third part: addresses, loads, fields, slices, literals). No program is read here.
-/
import Derived.Test.YtpepbnieocdpbaaDoorAbsOpB
namespace Go.Proofs.YtpepbnieocdpbaaDoor
open Go Go.RowKit
set_option linter.unusedSimpArgs false
set_option linter.unusedVariables false

section
variable {P : Program} {w : World} {O O' : Nat → Prop} {β : Nat → Value} {T : Tbl} {Q : List TypeId} {E : Owns} {F : Frame} {B : Nat} {a : Act}

theorem slice_nth {t : Ty} {i : Nat} {xs : List t.T} {vs : List Value} (h : RepL (RepC w O t) xs vs) (hi : i < xs.length) : RepC w O t (xs.getD i (zeroX t)) ((vs.drop (i * t.size)).take t.size) := by
  refine h.nth (fun x c => RepC.len t x c) ?_
  simp [List.getD, List.getElem?_eq_getElem hi]
theorem indexAt_slice {xt te : TypeId} {s : Nat} (hu : P.underlying xt = some (.slice te)) (hs : (Go.sizeOf te).run P w = .ok s w) {A : Addr} {n c : Nat} {k : IntKind} {i : Int} (h0 : 0 ≤ i) (h1 : i < n) :
    (Instr.indexAt xt (.slice (some A) n c) (.int k i)).run P w = .ok (.pointer (some (A.add (i.toNat * s)))) w := by
  unfold Instr.indexAt
  simp [Sem.run_bind, asIntOf_int, run_underlying hu, hs, h0, h1]
theorem indexAt_arr {xt te : TypeId} {n s : Nat} (hu : P.underlying xt = some (.array n te)) (hs : (Go.sizeOf te).run P w = .ok s w) {A : Addr} {k : IntKind} {i : Int} (h0 : 0 ≤ i) (h1 : i < n) :
    (Instr.indexAt xt (.pointer (some A)) (.int k i)).run P w = .ok (.pointer (some (A.add (i.toNat * s)))) w := by
  unfold Instr.indexAt
  simp [Sem.run_bind, asIntOf_int, run_underlying hu, hs, h0, h1, Instr.sureAddr]

theorem indexAddrV_yields (hT : TOk P T Q) (hown : ∀ i o, Owns.get E i = some o → OwnRep w O B (β i) o) {xt : TypeId} {va vi : V} {r : List Prop × V} (h : indexAddrV T E xt va vi = some r) (hp : allP r.1) {ua ui : Value}
    (ha : RepV w O β va.t va.x ua) (hi : RepV w O β vi.t vi.x ui) : Yields P (Instr.indexAt xt ua ui) w O β r.2 := by
  obtain ⟨ta, xa⟩ := va
  unfold indexAddrV at h
  split at h
  · rename_i t xs i hv hv'
    obtain ⟨rfl, hv⟩ := V.mk.inj hv
    cases hv
    obtain ⟨k, rfl⟩ := numV_rep hv' hi
    split at h
    · rename_i hs
      cases h
      obtain ⟨h0, h1⟩ := hp
      have h1 : i < (List.length xs : Nat) := h1
      have hlt : i.toNat < List.length xs := by omega
      obtain ⟨te, hu, _, hte⟩ := hT.is hs
      rcases RepV.slice ha with ⟨rfl, _⟩ | ⟨g, off, c, vs, rfl, _, _, _, h5, h6, h7, h8⟩
      · simp at hlt
      · refine .still (indexAt_slice hu hte.sizeOf h0 h1) ⟨g, off + i.toNat * t.size, _, by rw [Addr.add_mid], h5, h6, slice_nth h7 hlt, (h8.drop _).take _⟩
    · cases h
  · rename_i n t xs i hv hv'
    obtain ⟨rfl, hv⟩ := V.mk.inj hv
    cases hv
    obtain ⟨k, rfl⟩ := numV_rep hv' hi
    split at h
    · rename_i hs
      cases h
      obtain ⟨h0, h1⟩ := hp
      have h1 : i < (n : Int) := h1
      obtain ⟨te, hu, _, hte⟩ := hT.is hs
      obtain ⟨g, off, cs, rfl, h5, h6, h7, h8⟩ := ha
      exact .still (indexAt_arr hu hte.sizeOf h0 h1) ⟨g, off + i.toNat * t.size, _, by rw [Addr.add_mid], h5, h6, arr_nth h7 (by omega), (h8.drop _).take _⟩
    · cases h
  · rename_i n t o rt p i hv hv'
    obtain ⟨rfl, hv⟩ := V.mk.inj hv
    cases hv
    obtain ⟨k, rfl⟩ := numV_rep hv' hi
    split at h
    · rename_i hs
      cases h
      obtain ⟨h0, h1⟩ := hp
      have h1 : i < (n : Int) := h1
      obtain ⟨te, hu, _, hte⟩ := hT.is hs
      obtain ⟨g, h2, rfl⟩ := ha
      exact .still (indexAt_arr hu hte.sizeOf h0 h1) ⟨g, h2, by rw [Addr.add_mid]; rfl⟩
    · cases h
  · rename_i t' j i hv hv'
    obtain ⟨rfl, hv⟩ := V.mk.inj hv
    cases hv
    obtain ⟨k, rfl⟩ := numV_rep hv' hi
    split at h
    · rename_i te0 t xs he
      split at h
      · rename_i hs
        cases h
        obtain ⟨h0, h1⟩ := hp
        have h1 : i < (List.length xs : Nat) := h1
        obtain ⟨te, hu, _, hte⟩ := hT.is hs
        have hub : ua = β j := ha
        obtain ⟨cs, h2, h3, h4⟩ := hown j _ he
        rcases h3.2 with ⟨h5, h6⟩ | ⟨g, cap, cur, h5, _⟩
        · have : List.length xs = 0 := h6
          omega
        · rw [hub, h5]
          exact .still (indexAt_slice hu hte.sizeOf h0 h1) ⟨g, by rw [h5]; rfl, by rw [Addr.add_mid, Nat.zero_add]; rfl⟩
      · cases h
    · cases h
  · cases h

/-! ### places inside what is the call's own -/
def RootRep (w : World) (O : Nat → Prop) : (e : Bool) → (r : Ty) → r.T → List Value → Prop
  | true, .slice s, xs, cs => RepL (RepC w O s) xs cs
  | true, _, _, _ => False
  | false, r, x, cs => RepC w O r x cs
theorem Path.rep : ∀ {r t : Ty} (p : Path r t) (x : r.T) (cs : List Value), RootRep w O p.isElm r x cs → allP (p.vcs x) → RepC w O t (p.get x) ((cs.drop p.off).take t.size) ∧ p.off + t.size ≤ cs.length := by
  intro r t p
  induction p with
  | here =>
    intro x cs h _
    have hl := RepC.len _ _ _ h
    refine ⟨?_, by simp [Path.off, hl]⟩
    simp only [Path.off, List.drop_zero, ← hl, List.take_length]
    exact h
  | @fst r a b p ih =>
    intro x cs h hv
    obtain ⟨⟨c1, c2, h1, h2, h3⟩, h4⟩ := ih x cs h hv
    have l1 := RepC.len _ _ _ h2
    simp only [Ty.size] at h4 h1
    refine ⟨?_, by simp only [Path.off]; omega⟩
    have : (cs.drop p.off).take a.size = c1 := by
      have h5 : ((cs.drop p.off).take (a.size + b.size)).take a.size = c1 := by rw [h1, ← l1, List.take_left]
      rwa [List.take_take, Nat.min_eq_left (by omega)] at h5
    simp only [Path.off, Path.get, this]
    exact h2
  | @snd r a b p ih =>
    intro x cs h hv
    obtain ⟨⟨c1, c2, h1, h2, h3⟩, h4⟩ := ih x cs h hv
    have l1 := RepC.len _ _ _ h2
    simp only [Ty.size] at h4 h1
    refine ⟨?_, by simp only [Path.off]; omega⟩
    have : (cs.drop (p.off + a.size)).take b.size = c2 := by
      have h5 : ((cs.drop p.off).take (a.size + b.size)).drop a.size = c2 := by rw [h1, ← l1, List.drop_left]
      rw [List.drop_take, List.drop_drop] at h5
      rwa [show a.size + b.size - a.size = b.size by omega] at h5
    simp only [Path.off, Path.get, this]
    exact h3
  | @idx r t n p k ih =>
    intro x cs h hv
    rw [Path.vcs, allP_append] at hv
    have hk : k < n := hv.2
    obtain ⟨h1, h4⟩ := ih x cs h hv.1
    simp only [Ty.size] at h1 h4
    have h2 := arr_nth h1 hk
    have hle : k * t.size + t.size ≤ n * t.size := by
      have := Nat.mul_le_mul_right t.size (show k + 1 ≤ n by omega)
      rwa [Nat.add_mul, Nat.one_mul] at this
    refine ⟨?_, by simp only [Path.off]; omega⟩
    simp only [Path.off, Path.get]
    rw [List.drop_take, List.drop_drop, List.take_take, Nat.min_eq_left (by omega)] at h2
    exact h2
  | @elm t k =>
    intro x cs h hv
    have hk : k < List.length x := hv
    have h' : RepL (RepC w O t) x cs := h
    refine ⟨slice_nth h' hk, ?_⟩
    have hl := h'.len (fun x c => RepC.len t x c)
    have := Nat.mul_le_mul_right t.size (show k + 1 ≤ List.length x by omega)
    rw [Nat.add_mul, Nat.one_mul] at this
    simp only [Path.off]
    omega
theorem OwnRep.cells {bv : Value} {o : OObj} (h : OwnRep w O B bv o) {g : Nat} (hg : blockOf bv = some g) : ∃ cs, RootRep w O o.isBuf o.v.t o.v.x cs ∧ CellsAt w g 0 cs := by
  cases o with
  | box t x =>
    obtain ⟨g', cs, ty, rfl, h1, h2, h3⟩ := h
    cases hg
    refine ⟨cs, h3, fun j u hu => ?_⟩
    rw [Nat.zero_add]
    unfold World.cell?
    rw [h2]
    simpa using hu
  | buf te t xs =>
    obtain ⟨cs, h1, h2, h3⟩ := h
    rcases h2.2 with ⟨rfl, _⟩ | ⟨g', cap, cur, rfl, h4, h5, h6, h7, h8, h9⟩
    · cases hg
    · cases hg
      refine ⟨cs, h1, fun j u hu => ?_⟩
      rw [Nat.zero_add]
      unfold World.cell?
      rw [h5]
      simp only [Option.isSome_none, Bool.false_eq_true, if_false]
      rw [← h9, List.getElem?_take] at hu
      split at hu
      · simpa using hu
      · cases hu
theorem rootRep_cast {e : Bool} {r s : Ty} (h : r = s) {x : r.T} {cs : List Value} (hr : RootRep w O e r x cs) : RootRep w O e s (h ▸ x) cs := by subst h; exact hr

theorem rootX_spec {r : Ty} {o : OObj} {y : r.T} (h : rootX r o = some y) : o.v = ⟨r, y⟩ := by
  unfold rootX at h
  generalize o.v = ov at h ⊢
  obtain ⟨s, x⟩ := ov
  exact castO_spec h
/-! ### loads, fields -/
theorem loadV_run (hT : TOk P T Q) (hown : ∀ i o, Owns.get E i = some o → OwnRep w O B (β i) o) {t : TypeId} {va : V} {r : List Prop × V} (h : loadV T E t va = some r) (hp : allP r.1) {ua : Value}
    (ha : RepV w O β va.t va.x ua) : ∃ u, (Instr.loadAt t ua).run P w = .ok u w ∧ RepV w O β r.2.t r.2.x u := by
  obtain ⟨ta, xa⟩ := va
  unfold loadV at h
  split at h
  · rename_i τ x hv
    obtain ⟨rfl, hv⟩ := V.mk.inj hv
    cases hv
    split at h
    · rename_i hs
      cases h
      obtain ⟨g, off, cs, rfl, _, _, h4, h5⟩ := ha
      obtain ⟨u, h6, h7⟩ := (hT.is hs).loadAt h4 h5
      exact ⟨_, h6, (repV_data (hT.is hs).data).2 h7⟩
    · cases h
  · rename_i τ i rt p hv
    obtain ⟨rfl, hv⟩ := V.mk.inj hv
    cases hv
    split at h
    · rename_i o he
      split at h
      · rename_i hs
        split at h
        · rename_i y hy
          rw [Path.getO_eq] at h
          cases h
          simp only [Bool.and_eq_true, beq_iff_eq] at hs
          obtain ⟨g, h1, rfl⟩ := ha
          obtain ⟨cs, h2, h3⟩ := (hown _ _ he).cells h1
          have h4 : RootRep w O o.isBuf rt y cs := by
            rw [rootX_spec hy] at h2
            exact h2
          rw [← hs.2] at h4
          obtain ⟨h5, h6⟩ := Path.rep p _ _ h4 hp
          have h7 := (h3.drop (Path.off p)).take τ.size
          rw [Nat.zero_add] at h7
          obtain ⟨u, h8, h9⟩ := (hT.is hs.1).loadAt h5 h7
          exact ⟨_, h8, (repV_data (hT.is hs.1).data).2 h9⟩
        · cases h
      · cases h
    · cases h
  · cases h
theorem loadV_yields (hT : TOk P T Q) (hown : ∀ i o, Owns.get E i = some o → OwnRep w O B (β i) o) {t : TypeId} {va : V} {r : List Prop × V} (h : loadV T E t va = some r) (hp : allP r.1) {ua : Value}
    (ha : RepV w O β va.t va.x ua) : Yields P (Instr.loadAt t ua) w O β r.2 := by
  obtain ⟨u, h1, h2⟩ := loadV_run hT hown h hp ha
  exact .still h1 h2
theorem fieldsV_yields (hT : TOk P T Q) {xt : TypeId} {va : V} {n : Nat} {r : List Prop × V} (h : fieldsV T xt va n = some r) {ua : Value} (ha : RepV w O β va.t va.x ua) : Yields P (Instr.field xt ua n) w O β r.2 := by
  unfold fieldsV at h
  split at h
  · rename_i hs
    obtain ⟨v, h1, rfl⟩ := withP_some h
    have hl := hT.is hs
    obtain ⟨y, h2, h3⟩ := hl.field h1 ((repV_data hl.data).1 ha)
    have hd : v.t.data = true := by
      obtain ⟨fs, _, h5⟩ := hl.struct h1
      have ha' := (repV_data hl.data).1 ha
      have hagg : va.t.isAgg = true := by
        obtain ⟨t, x⟩ := va
        cases t <;> first | rfl | (cases n <;> cases h1)
      obtain ⟨cs, _, hc⟩ := (RepD.agg hagg).1 ha'
      obtain ⟨_, _, _, h6, _⟩ := fieldV_spec n _ _ v _ _ cs h1 h5 hc
      exact h6.data
    exact .still h2 ((repV_data hd).2 h3)
  · cases h
theorem fieldP_spec : ∀ (n : Nat) (r τ : Ty) (p : Path r τ) (t : Ty) (q : Path r t) (fs : List Field) (off : Nat), fieldP n r τ p = some ⟨t, q⟩ → Lay P τ (.inr (fs, off)) →
    ∃ f, fs[n]? = some f ∧ f.offset + p.off = off + q.off ∧ Lay P t (.inl f.type)
  | 0, r, .pair a b, p, t, q, fs, off, h, hl => by
    cases h
    obtain ⟨f, rest, h1, h2, h3, h4⟩ := hl
    simp only at h1 h2
    subst h1
    exact ⟨f, rfl, by simp [Path.off, h2], h3⟩
  | n + 1, r, .pair a b, p, t, q, fs, off, h, hl => by
    obtain ⟨f, rest, h1, h2, h3, h4⟩ := hl
    simp only at h1 h2
    subst h1
    obtain ⟨f', h5, h6, h7⟩ := fieldP_spec n r b (.snd p) t q rest _ h h4
    refine ⟨f', by simpa using h5, ?_, h7⟩
    simp only [Path.off] at h6
    omega
  | 0, _, .unit, _, _, _, _, _, h, _ => by cases h
  | _ + 1, _, .unit, _, _, _, _, _, h, _ => by cases h
  | n, _, .bool, _, _, _, _, _, h, _ => by cases n <;> cases h
  | n, _, .int _, _, _, _, _, _, h, _ => by cases n <;> cases h
  | n, _, .str, _, _, _, _, _, h, _ => by cases n <;> cases h
  | n, _, .arr _ _, _, _, _, _, _, h, _ => by cases n <;> cases h
  | n, _, .slice _, _, _, _, _, _, h, _ => by cases n <;> cases h
  | n, _, .junk, _, _, _, _, _, h, _ => by cases n <;> cases h
  | n, _, .lit, _, _, _, _, _, h, _ => by cases n <;> cases h
  | n, _, .vptr _, _, _, _, _, _, h, _ => by cases n <;> cases h
  | n, _, .optr _, _, _, _, _, _, h, _ => by cases n <;> cases h
  | n, _, .obuf _, _, _, _, _, _, h, _ => by cases n <;> cases h
  | n, _, .tup _ _, _, _, _, _, _, h, _ => by cases n <;> cases h
  | n, _, .cond _, _, _, _, _, _, h, _ => by cases n <;> cases h
theorem Lay.struct' {n : Nat} {r τ : Ty} {s : TypeId} (h : Lay P τ (.inl s)) {p : Path r τ} {q : (t : Ty) × Path r t} (hv : fieldP n r τ p = some q) : ∃ fs, P.underlying s = some (.struct fs) ∧ Lay P τ (.inr (fs.toList, 0)) := by
  cases τ with
  | pair a b =>
    obtain ⟨fs, h1, _, f, r, h2, h3, h4, h5⟩ := h
    exact ⟨fs, h1, f, r, h2, h3, h4, by simpa using h5⟩
  | _ => cases n <;> cases hv
theorem fieldAt_run {s : TypeId} {fs : Array Field} (hu : P.underlying s = some (.struct fs)) {n : Nat} {f : Field} (hf : fs[n]? = some f) {t : Ty} (ht : Lay P t (.inl f.type)) (hz : 0 < t.size) (A : Addr) :
    (Instr.fieldAt s (.pointer (some A)) n).run P w = .ok (.pointer (some (A.add f.offset))) w := by
  unfold Instr.fieldAt
  simp only [Sem.run_bind, run_underlying hu, Result.andThen_ok, hf, Instr.sureAddr, Sem.run_pure, fieldPlace, ht.sizeOf]
  rw [if_neg (by omega)]
  rfl
theorem fieldAddrV_yields (hT : TOk P T Q) {s : TypeId} {va : V} {n : Nat} {r : List Prop × V} (h : fieldAddrV T s va n = some r) {ua : Value} (ha : RepV w O β va.t va.x ua) : Yields P (Instr.fieldAt s ua n) w O β r.2 := by
  obtain ⟨ta, xa⟩ := va
  unfold fieldAddrV at h
  split at h
  · rename_i τ x hv
    obtain ⟨rfl, hv⟩ := V.mk.inj hv
    cases hv
    split at h
    · rename_i hs
      split at h
      · rename_i v hf
        split at h
        · rename_i hz
          cases h
          have hl := hT.is hs
          obtain ⟨fs, h1, h2⟩ := hl.struct hf
          obtain ⟨g, off, cs, rfl, h3, h4, h5, h6⟩ := ha
          obtain ⟨f, h7, h8, h9, h10⟩ := fieldV_spec n _ _ v _ _ cs hf h2 h5
          refine .still (fieldAt_run h1 (by simpa using h7) h9 (by simpa using hz) _) ⟨g, off + fieldOff n τ, _, ?_, h3, h4, h10, (h6.drop _).take _⟩
          rw [Addr.add_mid, h8, Nat.zero_add]
        · cases h
      · cases h
    · cases h
  · rename_i τ i rt p hv
    obtain ⟨rfl, hv⟩ := V.mk.inj hv
    cases hv
    split at h
    · rename_i hs
      split at h
      · rename_i t q hf
        split at h
        · rename_i hz
          cases h
          have hl := hT.is hs
          obtain ⟨fs, h1, h2⟩ := hl.struct' hf
          obtain ⟨g, h3, rfl⟩ := ha
          obtain ⟨f, h7, h8, h9⟩ := fieldP_spec n _ _ _ t q _ _ hf h2
          refine .still (fieldAt_run h1 (by simpa using h7) h9 (by simpa using hz) _) ⟨g, h3, ?_⟩
          rw [Addr.add_mid, show Path.off p + f.offset = q.off by omega]
        · cases h
      · cases h
    · cases h
  · cases h
theorem tupV_spec : ∀ (n : Nat) (τ : Ty) (x : τ.T) (v : V) (vs : List Value), tupV n τ x = some v → RepTup w O τ x vs → ∃ u, vs[n]? = some u ∧ RepD w O v.t v.x u
  | 0, .tup a b, x, v, vs, h, hr => by
    cases h
    obtain ⟨u, r, rfl, h1, h2⟩ := hr
    exact ⟨u, rfl, h1⟩
  | n + 1, .tup a b, x, v, vs, h, hr => by
    obtain ⟨u, r, rfl, h1, h2⟩ := hr
    obtain ⟨u', h3, h4⟩ := tupV_spec n b x.2 v r h h2
    exact ⟨u', by simpa using h3, h4⟩
  | 0, .unit, _, _, _, h, _ => by cases h
  | _ + 1, .unit, _, _, _, h, _ => by cases h
  | n, .bool, _, _, _, h, _ => by cases n <;> cases h
  | n, .int _, _, _, _, h, _ => by cases n <;> cases h
  | n, .str, _, _, _, h, _ => by cases n <;> cases h
  | n, .arr _ _, _, _, _, h, _ => by cases n <;> cases h
  | n, .slice _, _, _, _, h, _ => by cases n <;> cases h
  | n, .junk, _, _, _, h, _ => by cases n <;> cases h
  | n, .lit, _, _, _, h, _ => by cases n <;> cases h
  | n, .vptr _, _, _, _, h, _ => by cases n <;> cases h
  | n, .optr _, _, _, _, h, _ => by cases n <;> cases h
  | n, .obuf _, _, _, _, h, _ => by cases n <;> cases h
  | n, .pair _ _, _, _, _, h, _ => by cases n <;> cases h
  | n, .cond _, _, _, _, h, _ => by cases n <;> cases h
end
end Go.Proofs.YtpepbnieocdpbaaDoor
