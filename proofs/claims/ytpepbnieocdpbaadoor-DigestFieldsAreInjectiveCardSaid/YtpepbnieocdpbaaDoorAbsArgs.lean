/-
  Arguments that can be read as data are plain values; a contract that says 'true' gives a law's statement. No program is read here.
-/
import Derived.Test.YtpepbnieocdpbaaDoorAbsKn
import Derived.ProofKit
import Derived.OpenShut
import Derived.Carry
import Derived.ChangeSame
import Derived.Deep.DeepHandedRow
import Derived.Lib.LaidTab
namespace Go.Proofs.YtpepbnieocdpbaaDoor
open Go Go.RowKit Go.WideShapes Go.ChangeShapes
set_option linter.unusedSimpArgs false
set_option linter.unusedVariables false

/-- lists' elements have cells -/
def Ty.good : Ty → Bool
  | .pair a b => a.good && b.good
  | .arr _ t => t.good
  | .slice t => t.good && Nat.blt 0 t.size
  | _ => true
theorem encI_decI {k : IntKind} {n : Int} (h : k.min ≤ n ∧ n ≤ k.max) : encI k (decI k n) = n := by
  simp only [IntKind.min, IntKind.max] at h
  cases k <;> simp [IntKind.signed, IntKind.bits] at h <;> simp only [encI, decI]
  · simp; omega
  · simp; omega
  · simp; omega
  · simp; omega
section
variable {P : Program} {w : World} {H : Type} {enc : TypeId × Value → H} {base : Nat} {sp : Nat → Bool} {held : Bool}
def NoO : Nat → Prop := fun _ => False
theorem repL_of {α : Type} {R : α → List Value → Prop} {s : Nat} : ∀ (n : Nat) (cs : List Value), cs.length = n * s → (∀ i, i < n → ∃ x, R x ((cs.drop (i * s)).take s)) → ∃ xs : List α, xs.length = n ∧ RepL R xs cs
  | 0, cs, hl, _ => ⟨[], rfl, List.eq_nil_of_length_eq_zero (by simpa using hl)⟩
  | n + 1, cs, hl, h => by
    obtain ⟨x, hx⟩ := h 0 (by omega)
    obtain ⟨xs, hxs, hr⟩ := repL_of (R := R) (s := s) n (cs.drop s) (by rw [List.length_drop, hl, Nat.add_mul]; omega) fun i hi => by
      obtain ⟨y, hy⟩ := h (i + 1) (by omega)
      refine ⟨y, ?_⟩
      rw [List.drop_drop, show s + i * s = (i + 1) * s by rw [Nat.add_mul]; omega]
      exact hy
    refine ⟨x :: xs, by simp [hxs], cs.take s, cs.drop s, by simp, ?_, hr⟩
    simpa using hx
theorem cells?_some {g off n : Nat} {spt : Option Nat} {cs : List Value} (h : w.cells? base ⟨g, off, spt⟩ n = some cs) : cs.length = n ∧ ∀ j, j < n → ∃ u, cs[j]? = some u ∧ w.cell? ((⟨g, off, spt⟩ : Addr).add j) = some u := by
  unfold World.cells? at h
  split at h
  · refine ⟨by simpa using Lib.mapM_length h, fun j hj => ?_⟩
    obtain ⟨b, h1, h2⟩ := Lib.mapM_at h j j (by simp [hj])
    exact ⟨b, h1, h2⟩
  · cases h
theorem repL_cells {α : Type} {R : α → List Value → Prop} {s g : Nat} : ∀ (n off : Nat), (∀ i, i < n → ∃ x c, List.length c = s ∧ R x c ∧ ∀ j, j < s → ∃ u, c[j]? = some u ∧ w.cell? ⟨g, off + i * s + j, none⟩ = some u) → ∃ (xs : List α) (vs : List Value), xs.length = n ∧ RepL R xs vs ∧ CellsAt w g off vs
  | 0, _, _ => ⟨[], [], rfl, rfl, fun j u hu => by simp at hu⟩
  | n + 1, off, h => by
    obtain ⟨x, c, hc, hx, hcell⟩ := h 0 (by omega)
    obtain ⟨xs, vs, h1, h2, h3⟩ := repL_cells (R := R) (s := s) (g := g) n (off + s) fun i hi => by
      obtain ⟨y, d, hd, hy, hdc⟩ := h (i + 1) (by omega)
      refine ⟨y, d, hd, hy, fun j hj => ?_⟩
      obtain ⟨u, hu1, hu2⟩ := hdc j hj
      refine ⟨u, hu1, ?_⟩
      rw [show off + s + i * s + j = off + (i + 1) * s + j by rw [Nat.add_mul]; omega]
      exact hu2
    refine ⟨x :: xs, c ++ vs, by simp [h1], ⟨c, vs, rfl, hx, h2⟩, fun j u hu => ?_⟩
    rw [List.getElem?_append] at hu
    split at hu
    · rename_i hj
      obtain ⟨u', hu1, hu2⟩ := hcell j (by omega)
      rw [hu1] at hu
      cases hu
      simpa using hu2
    · rename_i hj
      have := h3 (j - c.length) u hu
      rw [hc] at this hj
      rwa [show off + s + (j - s) = off + j by omega] at this
theorem cells_lay {τ : Ty} {t : TypeId} (h : Lay P τ (.inl t)) : P.cellsOf t = τ.size := by
  obtain ⟨i, z, h1, h2, _⟩ := h.info
  unfold Program.cellsOf
  rw [h1]
  exact h2
def TrodRep (P : Program) (w : World) (enc : TypeId × Value → H) (base : Nat) (sp : Nat → Bool) (held : Bool) (τ : Ty) : Prop :=
  ∀ (t : TypeId) (cs : List Value) (fuel : Nat) (d : DataW H × List MemPlace), Lay P τ (.inl t) → DataW.trod enc P w base sp held fuel t cs = some d → ∃ x : τ.T, RepC w NoO τ x cs
def TrodRepS (P : Program) (w : World) (enc : TypeId × Value → H) (base : Nat) (sp : Nat → Bool) (held : Bool) (τ : Ty) : Prop :=
  ∀ (fs : List Field) (off fuel : Nat) (cs : List Value) (ds : List (DataW H × List MemPlace)), Lay P τ (.inr (fs, off)) → fs.mapM (fun f => DataW.trod enc P w base sp held fuel f.type ((cs.drop f.offset).take (P.cellsOf f.type))) = some ds →
    ∃ x : τ.T, RepC w NoO τ x ((cs.drop off).take τ.size)
theorem trod_of_struct {τ : Ty} {t : TypeId} {fs : Array Field} (hu : P.underlying t = some (.struct fs)) (hl : Lay P τ (.inr (fs.toList, 0))) (hc : P.cellsOf t = τ.size) (h : TrodRepS P w enc base sp held τ) {cs : List Value} {fuel : Nat} {d : DataW H × List MemPlace}
    (hd : DataW.trod enc P w base sp held fuel t cs = some d) : ∃ x : τ.T, RepC w NoO τ x cs := by
  cases fuel with
  | zero => simp [DataW.trod] at hd
  | succ fuel =>
    simp only [DataW.trod, hu] at hd
    split at hd
    · rename_i hlen
      obtain ⟨ds, hm, _⟩ := Option.map_eq_some_iff.1 hd
      obtain ⟨x, hx⟩ := h fs.toList 0 fuel cs ds hl hm
      refine ⟨x, ?_⟩
      rw [List.drop_zero, List.take_of_length_le (by rw [hlen, hc]; exact Nat.le_refl _)] at hx
      exact hx
    · cases hd
theorem trod_rep : ∀ τ : Ty, τ.good = true → TrodRep P w enc base sp held τ ∧ TrodRepS P w enc base sp held τ := by
  intro τ
  induction τ with
  | bool =>
    refine fun _ => ⟨fun t cs fuel d hl h => ?_, fun fs off fuel cs ds hl => hl.elim⟩
    obtain ⟨b, rfl, _⟩ := DataW.trod_bool hl.1 h
    exact ⟨b, rfl⟩
  | int k =>
    refine fun _ => ⟨fun t cs fuel d hl h => ?_, fun fs off fuel cs ds hl => hl.elim⟩
    obtain ⟨z, rfl, _, hwf⟩ := DataW.trod_int hl.1 h
    simp only [Lit.wf, Bool.and_eq_true, decide_eq_true_eq] at hwf
    exact ⟨decI k z, show [Value.int k z] = [Value.int k (encI k (decI k z))] by rw [encI_decI hwf]⟩
  | str =>
    refine fun _ => ⟨fun t cs fuel d hl h => ?_, fun fs off fuel cs ds hl => hl.elim⟩
    obtain ⟨s, rfl, _, hs⟩ := DataW.trod_string hl.1 h
    obtain ⟨⟨l⟩⟩ := s
    exact ⟨l, rfl, by simpa [ByteArray.size] using hs⟩
  | unit =>
    have hS : TrodRepS P w enc base sp held .unit := fun fs off fuel cs ds hl h => ⟨(), by simp [RepC, Ty.size]⟩
    refine fun _ => ⟨fun t cs fuel d hl h => ?_, hS⟩
    obtain ⟨fs, hu, hi, hn⟩ := hl
    exact trod_of_struct hu (by rw [hn]; rfl) (cells_lay (τ := .unit) ⟨fs, hu, hi, hn⟩) hS h
  | pair a b iha ihb =>
    intro hg
    simp only [Ty.good, Bool.and_eq_true] at hg
    obtain ⟨ia, _⟩ := iha hg.1
    obtain ⟨_, ib⟩ := ihb hg.2
    have hS : TrodRepS P w enc base sp held (.pair a b) := fun fs off fuel cs ds hl h => by
      obtain ⟨f, r, hf, ho, la, lb⟩ := hl
      have hf : fs = f :: r := hf
      subst hf
      rw [List.mapM_cons] at h
      obtain ⟨y, hy, h⟩ := Option.bind_eq_some_iff.1 h
      obtain ⟨ys, hys, h⟩ := Option.bind_eq_some_iff.1 h
      obtain ⟨x1, hx1⟩ := ia _ _ _ _ la hy
      obtain ⟨x2, hx2⟩ := ib r _ fuel cs ys lb hys
      have ho : f.offset = off := ho
      rw [cells_lay la, ho] at hx1
      refine ⟨(x1, x2), _, _, ?_, hx1, hx2⟩
      show (cs.drop off).take (a.size + b.size) = (cs.drop off).take a.size ++ (cs.drop (off + a.size)).take b.size
      rw [List.take_add, List.drop_drop]
    refine ⟨fun t cs fuel d hl h => ?_, hS⟩
    obtain ⟨fs, hu, hi, f, r, hf, ho, la, lb⟩ := hl
    have hl' : Lay P (.pair a b) (.inr (fs.toList, 0)) := ⟨f, r, hf, ho, la, by simpa using lb⟩
    exact trod_of_struct hu hl' (cells_lay (τ := .pair a b) ⟨fs, hu, hi, f, r, hf, ho, la, lb⟩) hS h
  | arr n e ih =>
    intro hg
    obtain ⟨ie, _⟩ := ih hg
    refine ⟨fun t cs fuel d hl h => ?_, fun fs off fuel cs ds hl => hl.elim⟩
    obtain ⟨te, hu, hi, le⟩ := hl
    have hct : P.cellsOf t = n * e.size := cells_lay (τ := .arr n e) ⟨te, hu, hi, le⟩
    cases fuel with
    | zero => simp [DataW.trod] at h
    | succ fuel =>
      simp only [DataW.trod, hu] at h
      split at h
      · rename_i hlen
        obtain ⟨ds, hm, _⟩ := Option.map_eq_some_iff.1 h
        obtain ⟨xs, h1, h2⟩ := repL_of (R := RepC w NoO e) (s := e.size) n cs (by rw [hlen, hct]) fun i hi => by
          obtain ⟨y, _, hy⟩ := Lib.mapM_at hm i i (by simp [hi])
          rw [cells_lay le] at hy
          exact ie _ _ _ _ le hy
        exact ⟨xs, h1, h2⟩
      · cases h
  | slice e ih =>
    intro hg
    simp only [Ty.good, Bool.and_eq_true, Nat.blt_eq] at hg
    obtain ⟨ie, _⟩ := ih hg.1
    refine ⟨fun t cs fuel d hl h => ?_, fun fs off fuel cs ds hl => hl.elim⟩
    obtain ⟨te, hu, hi, le⟩ := hl
    rcases DataW.trod_slice hu h with ⟨rfl, _⟩ | ⟨⟨g, off, spt⟩, len, cap, elems, rest, n, rfl, rfl, _, hb, hlc, hcm, hel, hix, _, _⟩
    · exact ⟨[], .slice none 0 0, rfl, .inl ⟨rfl, none, 0, rfl, by simp [maxLen]⟩⟩
    · by_cases hlen : len = 0
      · subst hlen
        exact ⟨[], _, rfl, .inl ⟨rfl, _, cap, rfl, hcm⟩⟩
      · rw [cells_lay le] at hix
        have hsome : ∀ i, i < len → ∃ c, w.cells? base ((⟨g, off, spt⟩ : Addr).add (i * e.size)) e.size = some c ∧ ∃ x : e.T, RepC w NoO e x c := fun i hi => by
          have h1 := hix i hi
          have h2 : ∃ y, elems[i]? = some y := ⟨elems[i]'(by omega), by simp [hel, hi]⟩
          obtain ⟨y, hy⟩ := h2
          rw [hy] at h1
          obtain ⟨c, hc1, hc2⟩ := Option.bind_eq_some_iff.1 h1
          exact ⟨c, hc1, ie _ _ _ _ le hc2⟩
        have hspt : spt = none := by
          obtain ⟨c, hc1, _⟩ := hsome 0 (by omega)
          cases spt with
          | none => rfl
          | some q =>
            exfalso
            have e0 : ∀ k, k = 0 → (⟨g, off, some q⟩ : Addr).add k = ⟨g, off, some q⟩ := fun k hk => by unfold Addr.add; rw [if_pos hk]
            rw [e0 _ (Nat.zero_mul _)] at hc1
            obtain ⟨u, _, hu2⟩ := (cells?_some hc1).2 0 (by omega)
            rw [e0 _ rfl] at hu2
            unfold World.cell? at hu2
            split at hu2
            · simp at hu2
            · cases hu2
        subst hspt
        obtain ⟨xs, vs, h1, h2, h3⟩ := repL_cells (w := w) (R := RepC w NoO e) (s := e.size) (g := g) len off fun i hi => by
          obtain ⟨c, hc1, x, hx⟩ := hsome i hi
          rw [Addr.add_mid] at hc1
          obtain ⟨hcl, hcc⟩ := cells?_some hc1
          refine ⟨x, c, hcl, hx, fun j hj => ?_⟩
          obtain ⟨u, hu1, hu2⟩ := hcc j hj
          rw [Addr.add_mid] at hu2
          exact ⟨u, hu1, hu2⟩
        have hgl : g < w.heap.size := by
          obtain ⟨c, hc1, _⟩ := hsome 0 (by omega)
          rw [Addr.add_mid] at hc1
          obtain ⟨u, _, hu2⟩ := (cells?_some hc1).2 0 (by omega)
          rw [Addr.add_mid] at hu2
          unfold World.cell? at hu2
          cases hh : w.heap[g]? with
          | none => simp [hh] at hu2
          | some o => exact (Array.getElem?_eq_some_iff.1 hh).1
        refine ⟨xs, _, rfl, .inr ⟨g, off, cap, vs, by rw [h1], fun hx => hlen (by rw [← h1, hx]; rfl), by omega, hcm, hgl, fun h => h, h2, h3⟩⟩
  | _ => exact fun _ => ⟨fun t cs fuel d hl h => hl.elim, fun fs off fuel cs ds hl => hl.elim⟩
def LayAll (P : Program) : List Ty → List TypeId → Prop
  | [], [] => True
  | τ :: r, t :: s => Lay P τ (.inl t) ∧ LayAll P r s
  | _, _ => False
theorem layAll_of {T : Tbl} {Q : List TypeId} (hT : TOk P T Q) : ∀ (ts : List Ty) (tids : List TypeId), (ts.length == tids.length && (ts.zip tids).all fun p => tis T p.2 p.1) = true → LayAll P ts tids
  | [], [], _ => trivial
  | τ :: r, t :: s, h => by
    simp only [List.length_cons, List.zip_cons_cons, List.all_cons, Bool.and_eq_true, beq_iff_eq] at h
    exact ⟨hT.is h.2.1, layAll_of hT r s (by simp only [Bool.and_eq_true, beq_iff_eq]; exact ⟨by omega, h.2.2⟩)⟩
  | [], _ :: _, h => by simp at h
  | _ :: _, [], h => by simp at h
theorem cells_one {v : Value} (hv : ∀ cs, v ≠ .agg cs) : v.cells.toList = [v] := by
  cases v <;> first | rfl | exact absurd rfl (hv _)
theorem trod_repD {τ : Ty} (hg : τ.good = true) {t : TypeId} (hl : Lay P τ (.inl t)) {v : Value} {d : DataW H} {ps : List MemPlace} (h : DataW.Trod enc P w base sp held t v d ps) {r : Reach} {b2 : Nat} (hok : Value.okWide P w r b2 t v) : ∃ x : τ.T, RepD w NoO τ x v := by
  obtain ⟨fuel, h⟩ := h
  obtain ⟨x, hx⟩ := (trod_rep τ hg).1 t _ fuel _ hl h
  refine ⟨x, ?_⟩
  cases hagg : τ.isAgg with
  | true =>
    rw [RepD.agg hagg]
    have : ∃ cs, v = .agg cs := by
      unfold Value.okWide at hok
      cases τ with
      | unit => obtain ⟨fs, hu, _⟩ := hl; rw [hu] at hok; obtain ⟨cs, e, _⟩ := hok; exact ⟨cs, e⟩
      | pair a b => obtain ⟨fs, hu, _⟩ := hl; rw [hu] at hok; obtain ⟨cs, e, _⟩ := hok; exact ⟨cs, e⟩
      | arr k e => obtain ⟨te, hu, _⟩ := hl; rw [hu] at hok; obtain ⟨cs, e, _⟩ := hok; exact ⟨cs, e⟩
      | _ => cases hagg
    obtain ⟨cs, rfl⟩ := this
    exact ⟨cs.toList, by simp, hx⟩
  | false =>
    rw [RepD.scalar hagg]
    have hv : ∀ cs, v ≠ .agg cs := by
      rintro cs rfl
      unfold Value.okWide at hok
      cases τ with
      | bool => rw [hl.1] at hok; simp [Cell.okWide, Cell.ok, hl.1] at hok
      | int k => rw [hl.1] at hok; simp [Cell.okWide, Cell.ok, hl.1] at hok
      | str => rw [hl.1] at hok; simp [Cell.okWide, Cell.ok, hl.1] at hok
      | slice e => obtain ⟨te, hu, _⟩ := hl; rw [hu] at hok; simp [Cell.okWide, Cell.ok, hu] at hok
      | unit => cases hagg
      | pair a b => cases hagg
      | arr k e => cases hagg
      | _ => exact hl.elim
    rw [cells_one hv] at hx
    exact hx
theorem trodAll_rep : ∀ (ts : List Ty) (tids : List TypeId) (vs : List Value) (ds : List (DataW H)) (ps : List MemPlace), (ts.all Ty.good) = true → LayAll P ts tids → DataW.TrodAll enc P w base sp held tids vs ds ps →
    ∀ {r : Reach} {b2 : Nat}, (∀ (j : Nat) t v, tids[j]? = some t → vs[j]? = some v → Value.okWide P w r b2 t v) → ds.length = ts.length ∧ ∃ xs : Args ts, RepA w NoO ts xs vs
  | [], [], [], [], _, _, _, _, _, _, _ => ⟨rfl, (), rfl⟩
  | τ :: ts, t :: tids, v :: vs, d :: ds, ps, hg, hl, h, r, b2, hok => by
    simp only [List.all_cons, Bool.and_eq_true] at hg
    obtain ⟨p, q, h1, h2, _⟩ := h
    obtain ⟨x, hx⟩ := trod_repD hg.1 hl.1 h1 (hok 0 t v rfl rfl)
    obtain ⟨e, xs, hxs⟩ := trodAll_rep ts tids vs ds q hg.2 hl.2 h2 (fun j t' v' hj hv => hok (j + 1) t' v' (by simpa using hj) (by simpa using hv))
    exact ⟨by simp [e], (x, xs), v, vs, rfl, hx, hxs⟩
  | [], [], [], _ :: _, _, _, _, h, _, _, _ => h.elim
  | [], [], _ :: _, _, _, _, _, h, _, _, _ => by cases ‹List (DataW H)› <;> exact h.elim
  | _ :: _, _ :: _, [], ds, _, _, _, h, _, _, _ => by cases ds <;> exact h.elim
  | _ :: _, _ :: _, _ :: _, [], _, _, _, h, _, _, _ => h.elim
  | [], _ :: _, _, _, _, _, hl, _, _, _, _ => hl.elim
  | _ :: _, [], _, _, _, _, hl, _, _, _, _ => hl.elim
/-- all arguments read as they did -/
theorem trodAll_below {W W' : World} (hl : laidOutB P = true) (hb : Below W.heap.size W W') : ∀ (tids : List TypeId) (vs : List Value) (ds : List (DataW H)) (ps : List MemPlace), (tids.all fun t => P.readableRec t && decide (t < P.types.size)) = true → DataW.TrodAll enc P W 0 (fun _ => true) true tids vs ds ps → (∀ x ∈ ps, x.block < W.heap.size) →
    ∀ spare : Nat → Bool, (∀ p ∈ ps, spare p.block = true) → DataW.TrodAll enc P W' 0 spare true tids vs ds ps
  | [], [], [], _, _, h, _, _, _ => h
  | t :: tids, v :: vs, d :: ds, ps, ht, h, hlt, spare, hsp => by
    obtain ⟨p, q, h1, h2, rfl⟩ := h
    simp only [List.all_cons, Bool.and_eq_true, decide_eq_true_eq] at ht
    have hp : ∀ x ∈ p, x.block < W.heap.size := fun x hx => hlt x (by simp [hx])
    refine ⟨p, q, ?_, trodAll_below hl hb tids vs ds q ht.2 h2 (fun x hx => hlt x (by simp [hx])) spare (fun x hx => hsp x (by simp [hx])), rfl⟩
    exact WideElems.Trod_stays hl ht.1.1 ht.1.2 h1 (fun x hx => hb.same (hp x hx)) (fun x hx => hsp x (by simp [hx]))
  | [], _ :: _, _, _, _, h, _, _, _ => by cases ‹List (DataW H)› <;> exact h.elim
  | [], [], _ :: _, _, _, h, _, _, _ => h.elim
  | _ :: _, [], ds, _, _, h, _, _, _ => by cases ds <;> exact h.elim
  | _ :: _, _ :: _, [], _, _, h, _, _, _ => h.elim
/-- a law's contract: it answers true -/
def lawCtr (ts : List Ty) : Ctr := { args := ts, pre := fun _ => [], res := .bool, own := none, out := fun _ => true }
theorem law_of_ctr {G : World → Prop} {k : FuncId} {fn : Func} {s : ChangeSpec} {ts : List Ty} (hc : CtrOk P G k (lawCtr ts)) (hlay : LayAll P ts fn.params.toList) (hgood : (ts.all Ty.good) = true) (hvars : s.vars = [])
    (hspec : ∀ (ds : List (DataW H)), ds.length = ts.length → s.fn H ds = { results := [.lit (.bool true)], args := ds }) (hlaid : laidOutB P = true) (hrec : (fn.params.toList.all fun t => P.readableRec t && decide (t < P.types.size)) = true) {tb : TypeId} (hres : fn.resultTypes = #[tb]) (htb : P.underlying tb = some .bool)
    {W : World} {args : Array Value} {ds gs : List (DataW H)} {before : List MemPlace} {b2 : Nat} (hval : ∀ (j : Nat) t v, fn.params[j]? = some t → args[j]? = some v → Value.okWide P W .any b2 t v)
    (hW : DataW.Whole enc P fn.params.toList s.vars false W args.toList ds gs before) (hG : G W) :
    Calls P k args W fun e W' => ∃ v, e = .returned v ∧ s.post enc P fn false true false false W args v W' := by
  have hlt : ∀ p ∈ before, p.block < W.heap.size := fun p hp => hW.lt p hp
  have hW' := hW
  obtain ⟨p, q, hA, hV, rfl, _, _⟩ := hW
  rw [hvars] at hV
  have hgs : gs = [] ∧ q = [] := by
    cases gs with
    | nil => exact ⟨rfl, hV⟩
    | cons g r => exact hV.elim
  obtain ⟨rfl, rfl⟩ := hgs
  obtain ⟨hlen, xs, hxs⟩ := trodAll_rep ts fn.params.toList args.toList ds p hgood hlay hA (r := .any) (b2 := b2) (fun j t v hj hv => hval j t v (by simpa using hj) (by simpa using hv))
  have hcall := hc.2 W NoO xs args.toList (fun g hg => hg.elim) hxs trivial hG
  rw [Array.toArray_toList] at hcall
  refine hcall.mono ?_
  rintro e W' ⟨v, rfl, hb, hr⟩
  have hv : v = .bool true := RepV.bool (hr (fun _ => undef))
  subst hv
  have hfn : s.fn H (ds ++ []) = { results := [.lit (.bool true)], args := ds } := by rw [List.append_nil]; exact hspec ds hlen
  refine ⟨_, rfl, ds, [], _, [], p, [], hW', ?_, ?_, ?_, ?_, fun h => (by cases h)⟩
  · rw [hfn, hres]
    exact ⟨[], [], ⟨1, by simp [DataW.trod, htb, Value.cells, Value.resultList]⟩, rfl, rfl⟩
  · rw [hfn]
    exact trodAll_below hlaid hb _ _ _ _ hrec hA (fun x hx => hlt x (by simp [hx])) _ (fun x hx => by simpa using hlt x (by simp [hx]))
  · rw [hvars, hfn]
    rfl
  · exact World.keptBut_mono (fun x hx => ⟨hx, .inr (.inl (by simpa using hx))⟩) (hb.frame (· ∈ p ++ []))
end
end Go.Proofs.YtpepbnieocdpbaaDoor
