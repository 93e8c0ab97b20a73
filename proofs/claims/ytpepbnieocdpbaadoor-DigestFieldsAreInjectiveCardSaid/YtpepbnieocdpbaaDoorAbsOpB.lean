/-
  Operations that read and compute: the model's operation yields what stands for the plain value (second part: conversions, parts, slices, literals). No program is read here.
-/
import Derived.Test.YtpepbnieocdpbaaDoorAbsOpA
namespace Go.Proofs.YtpepbnieocdpbaaDoor
open Go Go.RowKit
set_option linter.unusedSimpArgs false
set_option linter.unusedVariables false

section
variable {P : Program} {w : World} {O O' : Nat → Prop} {β : Nat → Value} {T : Tbl} {Q : List TypeId} {E : Owns} {F : Frame} {B : Nat} {a : Act}

theorem Keeps.of_false : Keeps w w O (fun _ => False) := ⟨Nat.le_refl _, fun _ _ _ => rfl, fun _ _ h => h.elim⟩

/-! ### a slice's cells -/
theorem repL_bytes {xs : List UInt8} {vs : List Value} (h : RepL (RepC w O (.int .u8)) xs vs) : vs = xs.map fun b => .int .u8 (b.toNat : Int) := by
  induction xs generalizing vs with
  | nil => cases h; rfl
  | cons x xs ih =>
    obtain ⟨c1, c2, rfl, h2, h3⟩ := h
    rw [ih h3]
    cases h2
    rfl
theorem repL_ofBytes (xs : List UInt8) : RepL (RepC w O (.int .u8)) xs (xs.map fun b => .int .u8 (b.toNat : Int)) := by
  induction xs with
  | nil => rfl
  | cons x xs ih => exact ⟨[_], _, rfl, rfl, ih⟩
theorem RepV.slice {t : Ty} {xs : List t.T} {u : Value} (h : RepV w O β (.slice t) xs u) : RepS w O (RepC w O t) xs u := by
  obtain ⟨v, hv, h'⟩ := ((RepD.scalar rfl).1 h : RepC w O (.slice t) xs [u])
  cases hv
  exact h'
theorem RepV.ofSlice {t : Ty} {xs : List t.T} {u : Value} (h : RepS w O (RepC w O t) xs u) : RepV w O β (.slice t) xs u :=
  ((RepD.scalar rfl).2 ⟨u, rfl, h⟩ : RepD w O (.slice t) xs u)
theorem RepS.nlen {α : Type} {R : α → List Value → Prop} {xs : List α} {u : Value} (h : RepS w O R xs u) : ∃ A c, u = .slice A xs.length c ∧ xs.length ≤ c ∧ c ≤ maxLen := by
  rcases h with ⟨rfl, A, c, rfl, h⟩ | ⟨g, off, c, vs, rfl, _, h1, h2, _⟩
  · exact ⟨A, c, rfl, Nat.zero_le _, h⟩
  · exact ⟨_, c, rfl, h1, h2⟩

/-! ### new memory -/
theorem below_alloc (w : World) (o : Obj) : Below w.heap.size w (w.alloc o) := (Below.refl _ _).alloc (Nat.le_refl _) _
/-- a list in a new row -/
theorem repS_new {t : Ty} {xs : List t.T} {vs : List Value} (hO : ∀ g, O g → g < w.heap.size) (h : RepL (RepC w O t) xs vs) {cap : Nat} (hc : xs.length ≤ cap) (hm : cap ≤ maxLen) {cells : Array Value} {te : TypeId} {fz : Nat × Nat}
    {w' : World} (hk : Below w.heap.size w w') (hrow : w'.heap[w.heap.size]? = some (.cells cells te fz)) (hpre : ∀ (j : Nat) (u : Value), vs[j]? = some u → cells[j]? = some u) :
    RepS w' O (RepC w' O t) xs (.slice (some ⟨w.heap.size, 0, none⟩) xs.length cap) := by
  by_cases hx : xs = []
  · subst hx
    exact .inl ⟨rfl, _, cap, rfl, hm⟩
  · refine .inr ⟨w.heap.size, 0, cap, vs, rfl, hx, hc, hm, (Array.getElem?_eq_some_iff.1 hrow).1, fun h => Nat.lt_irrefl _ (hO _ h), h.mono fun x _ c => RepC.keep (.of_below hk fun _ _ h => h) _ _ _, fun j u hu => ?_⟩
    rw [Nat.zero_add]
    unfold World.cell?
    rw [hrow]
    simp only [Option.isSome_none, Bool.false_eq_true, if_false]
    exact hpre j u hu

/-! ### conversions -/
def byteCells (l : List UInt8) : List Value := l.map fun b => .int .u8 (b.toNat : Int)
theorem below_freeze (w : World) (o : Obj) (k n : Nat) : Below w.heap.size w ((w.alloc o).freeze ⟨w.heap.size, k, none⟩ n) := by
  unfold World.freeze
  split
  · exact below_alloc w o
  · refine ⟨rfl, rfl, rfl, ?_, fun g hg => ?_⟩
    · show w.heap.size ≤ (Array.modify (w.heap.push o) _ _).size
      simp
    show (Array.modify (w.heap.push o) _ _)[g]? = _
    simp only [Array.getElem?_modify]
    rw [if_neg (by omega), Array.getElem?_push, if_neg (by omega)]
theorem freeze_new (w : World) (cs : Array Value) (e : TypeId) (fz : Nat × Nat) (k n : Nat) : ∃ fz', ((w.alloc (.cells cs e fz)).freeze ⟨w.heap.size, k, none⟩ n).heap[w.heap.size]? = some (.cells cs e fz') := by
  unfold World.freeze
  split
  · exact ⟨fz, heap_alloc_new w _⟩
  · simp only [World.alloc, Array.getElem?_modify, if_true]
    rw [show (w.heap.push (Obj.cells cs e fz))[w.heap.size]? = some (Obj.cells cs e fz) by simp]
    exact ⟨_, rfl⟩
theorem run_stringToBytes (e : TypeId) (l : List UInt8) (w : World) :
    ∃ cap w', (Conv.stringToBytes e ⟨l.toArray⟩).run P w = .ok (.slice (some ⟨w.heap.size, 0, none⟩) l.length cap) w' ∧ l.length ≤ cap ∧ (l.length ≤ maxLen → cap ≤ maxLen) ∧ Below w.heap.size w w' ∧
      ∃ fz, w'.heap[w.heap.size]? = some (.cells ((byteCells l).toArray ++ Array.replicate (cap - l.length) (Value.int .u8 0)) e fz) := by
  have hs : (⟨l.toArray⟩ : ByteArray).size = l.length := by simp [ByteArray.size]
  have hdata : ((⟨l.toArray⟩ : ByteArray).data.map fun b => Value.int .u8 (b.toNat : Int)) = (byteCells l).toArray := by simp [byteCells]
  generalize hcap : (Question.appendCap l.length 0 e).cut (w.tape w.drawn (.appendCap l.length 0 e)) = cap
  have h1 : l.length ≤ cap := by rw [← hcap]; simp only [Question.cut]; omega
  have h2 : l.length ≤ maxLen → cap ≤ maxLen := fun hm => by
    rw [← hcap]; simp only [Question.cut, maxLen] at *
    have := Nat.mod_lt (w.tape w.drawn (.appendCap l.length 0 e)) (show 0 < 2 ^ 63 - l.length by omega)
    omega
  have hb : Below w.heap.size w w.drew := (Below.refl _ _).drew
  refine ⟨cap, (w.drew.alloc (.cells ((byteCells l).toArray ++ Array.replicate (cap - l.length) (Value.int .u8 0)) e)).freeze ⟨w.drew.heap.size, ((byteCells l).toArray ++ Array.replicate (cap - l.length) (Value.int .u8 0)).size, none⟩ 1, ?_, h1, h2, hb.trans (below_freeze w.drew _ _ _), freeze_new w.drew _ _ _ _ _⟩
  have hrow : (w.drew.alloc (.cells ((byteCells l).toArray ++ Array.replicate (cap - l.length) (Value.int .u8 0)) e)).shape? w.drew.heap.size = some (e, ((byteCells l).toArray ++ Array.replicate (cap - l.length) (Value.int .u8 0)).size) := by
    simp only [World.shape?, heap_alloc_new]
  unfold Conv.stringToBytes
  rw [hs]
  simp only [Sem.run_bind, run_choose_drew, Question.forced, Bool.false_eq_true, if_false, Result.andThen_ok, hcap, newRow, newObj, Sem.run, Sem.run_pure, markStringish, hdata]
  rw [show ({ w.drew with heap := w.drew.heap.push (Obj.cells ((byteCells l).toArray ++ Array.replicate (cap - l.length) (Value.int .u8 0)) e) } : World) = w.drew.alloc (Obj.cells ((byteCells l).toArray ++ Array.replicate (cap - l.length) (Value.int .u8 0)) e) from rfl]
  simp only [run_shape, hrow, Result.andThen_ok, run_freeze]
  rfl
theorem tis_int_under (hT : TOk P T Q) {t : TypeId} {k : IntKind} (h : tis T t (.int k) = true) : P.underlying t = some (.int k) := (hT.is h).1
theorem cvV_yields (hT : TOk P T Q) (hO : ∀ g, O g → g < w.heap.size) {src dst : TypeId} {va : V} {r : List Prop × V} (h : cvV T src dst va = some r) (hp : allP r.1) {ua : Value} (ha : RepV w (fun _ => False) β va.t va.x ua) :
    Yields P (Go.convert src dst ua) w O β r.2 := by
  obtain ⟨ta, xa⟩ := va
  unfold cvV at h
  split at h
  · rename_i k x l hv ht
    obtain ⟨rfl, hv⟩ := V.mk.inj hv
    cases hv
    split at h
    · rename_i hs
      obtain ⟨q, h1, rfl⟩ := asI_some h
      have := RepV.int ha
      subst this
      have hsu := (hT.is hs).1
      have hdu := (hT.lay _ _ ht).1
      refine .still (u := .int l (encI l q.2)) ?_ RepV.ofInt
      unfold Go.convert
      simp only [Sem.run_bind, run_underlying hsu, run_underlying hdu, Result.andThen_ok, Conv.intToInt, Sem.run_pure]
      rw [cvI_wrap (vc := q.1) (z := q.2) h1 hp]
    · cases h
  · rename_i x hv ht
    obtain ⟨rfl, hv⟩ := V.mk.inj hv
    cases hv
    split at h
    · rename_i hs
      cases h
      obtain ⟨e, hl⟩ := RepV.str ha
      subst e
      have hsu := (hT.is hs).1
      have hdu := (hT.lay _ _ ht).1
      refine .still ?_ (RepV.ofStr hl)
      unfold Go.convert
      simp only [Sem.run_bind, run_underlying hsu, run_underlying hdu, Result.andThen_ok, Sem.run_pure]
    · cases h
  · rename_i x hv ht
    obtain ⟨rfl, hv⟩ := V.mk.inj hv
    cases hv
    split at h
    · rename_i hs
      cases h
      obtain ⟨e, hl⟩ := RepV.str ha
      subst e
      have hsu := (hT.is hs).1
      obtain ⟨te, hdu, _, hte⟩ := hT.lay _ _ ht
      obtain ⟨cap, w', h1, h2, h3, h4, fz, h5⟩ := run_stringToBytes (P := P) te x w
      refine ⟨_, w', ?_, h4, RepV.ofSlice (repS_new hO (repL_ofBytes x) h2 (h3 hl) h4 h5 fun j u hj => ?_)⟩
      · unfold Go.convert
        simp only [Sem.run_bind, run_underlying hsu, run_underlying hdu, Result.andThen_ok, run_underlying hte.1, h1]
      · rw [Array.getElem?_append_left]
        · simpa [byteCells] using hj
        · have := (List.getElem?_eq_some_iff.1 hj).1
          simpa [byteCells] using this
    · cases h
  · rename_i x hv ht
    obtain ⟨rfl, hv⟩ := V.mk.inj hv
    cases hv
    split at h
    · rename_i hs
      cases h
      have hsl := RepV.slice ha
      obtain ⟨te, hsu, _, hte⟩ := hT.is hs
      have hdu := (hT.lay _ _ ht).1
      rcases hsl with ⟨rfl, A, c, rfl, hc⟩ | ⟨g, off, c, vs, rfl, hx, h1, h2, h3, _, h5, h6⟩
      · refine .still (u := .string ⟨#[]⟩) ?_ (RepV.ofStr (l := []) (by simp))
        cases A with
        | none => exact run_convert_bytes_nil (P := P) w src te hsu hte.1 0 c dst hdu
        | some A =>
          have := run_convert_bytes_back (P := P) w src dst te A c [] hsu hte.1 hdu (fun j hj => by simp at hj)
          exact this
      · have hvs := repL_bytes h5
        subst hvs
        refine .still (run_convert_bytes_back (P := P) w src dst te ⟨g, off, none⟩ c x hsu hte.1 hdu fun j hj => ?_) (RepV.ofStr (Nat.le_trans h1 h2))
        rw [Addr.add_mid]
        exact h6 j _ (by simp [hj])
    · cases h
  · cases h

/-! ### parts -/
theorem asIntOf_int (k : IntKind) (n : Int) : (asIntOf (.int k n)).run P w = .ok (k, n) w := rfl
theorem arr_nth {n i : Nat} {t : Ty} {xs : List t.T} {cs : List Value} (h : RepC w O (.arr n t) xs cs) (hi : i < n) :
    RepC w O t (xs.getD i (zeroX t)) ((cs.drop (i * t.size)).take t.size) := by
  obtain ⟨h1, h2⟩ := h
  have hi' : i < xs.length := by have h1' : xs.length = n := h1; omega
  refine h2.nth (fun x c => RepC.len t x c) ?_
  simp [List.getD, List.getElem?_eq_getElem hi']
theorem indexV_yields (hT : TOk P T Q) {xt : TypeId} {va vi : V} {r : List Prop × V} (h : indexV T xt va vi = some r) (hp : allP r.1) {ua ui : Value} (ha : RepV w O β va.t va.x ua) (hi : RepV w O β vi.t vi.x ui) :
    Yields P (Instr.index xt ua ui) w O β r.2 := by
  obtain ⟨ta, xa⟩ := va
  unfold indexV at h
  split at h
  · rename_i n t xs i hv hv'
    obtain ⟨rfl, hv⟩ := V.mk.inj hv
    cases hv
    obtain ⟨k, rfl⟩ := numV_rep hv' hi
    split at h
    · rename_i hs
      cases h
      obtain ⟨te, hu, _, hte⟩ := hT.is hs
      obtain ⟨cs, rfl, hc⟩ := (RepD.agg rfl).1 ha
      obtain ⟨h0, h1⟩ := hp
      have h1 : i < (n : Int) := h1
      obtain ⟨u, h2, h3⟩ := hte.part (arr_nth hc (i := i.toNat) (by omega))
      refine .still (u := u) ?_ ((repV_data hte.data).2 h3)
      unfold Instr.index
      simp only [Sem.run_bind, asIntOf_int, Result.andThen_ok, run_underlying hu, h0, h1, and_self, if_true, hte.sizeOf, h2]
    · cases h
  · rename_i l i hv hv'
    obtain ⟨rfl, hv⟩ := V.mk.inj hv
    cases hv
    obtain ⟨k, rfl⟩ := numV_rep hv' hi
    split at h
    · rename_i hs
      cases h
      have hu := (hT.is hs).1
      obtain ⟨e, hl⟩ := RepV.str ha
      subst e
      obtain ⟨h0, h1⟩ := hp
      have h1 : i < (List.length l : Nat) := h1
      have hlt : i.toNat < List.length l := by omega
      refine .still (u := .int .u8 ((List.getD l i.toNat 0).toNat : Int)) ?_ (RepV.ofInt (k := .u8))
      unfold Instr.index
      have hget : (⟨List.toArray l⟩ : ByteArray)[i.toNat]? = some (List.getD l i.toNat 0) := by
        have hsz : i.toNat < (⟨List.toArray l⟩ : ByteArray).size := by simpa [ByteArray.size] using hlt
        rw [getElem?_pos (⟨List.toArray l⟩ : ByteArray) i.toNat hsz]
        simp [List.getD, List.getElem?_eq_getElem hlt]
        rfl
      simp only [Sem.run_bind, asIntOf_int, Result.andThen_ok, run_underlying hu, h0, if_true, hget, Sem.run_pure]
    · cases h
  · cases h
end
end Go.Proofs.YtpepbnieocdpbaaDoor
