/-
  Operations that read and compute, all of them: the model's operation yields what stands for the plain value. No program is read here.
-/
import Derived.Test.YtpepbnieocdpbaaDoorAbsOpE
namespace Go.Proofs.YtpepbnieocdpbaaDoor
open Go Go.RowKit
set_option linter.unusedSimpArgs false
set_option linter.unusedVariables false

def NYields (P : Program) (s : Sem Next) (w : World) (O : Nat → Prop) (β : Nat → Value) (r : V) : Prop :=
  ∃ u w', s.run P w = .ok (.value u) w' ∧ Below w.heap.size w w' ∧ RepV w' O β r.t r.x u
section
variable {P : Program} {w : World} {O O' : Nat → Prop} {β : Nat → Value} {T : Tbl} {Q : List TypeId} {E : Owns} {F : Frame} {B : Nat} {a : Act}

theorem Yields.next {s : Sem Value} {r : V} (h : Yields P s w O β r) : NYields P (do pure (.value (← s))) w O β r := by
  obtain ⟨u, w', h1, h2, h3⟩ := h
  exact ⟨u, w', by simp [h1], h2, h3⟩
theorem NYields.still {s : Sem Next} {r : V} {u : Value} (h : s.run P w = .ok (.value u) w) (hr : RepV w O β r.t r.x u) : NYields P s w O β r := ⟨u, w, h, Below.refl _ _, hr⟩

theorem map_toArr {α γ : Type} (f : α → γ) (xs : Array α) : (xs.toList.map f).toArray = xs.map f := by rw [← Array.toList_map, Array.toArray_toList]
theorem pOp_yields (hT : TOk P T Q) (hO : ∀ g, O g → g < w.heap.size) (hown : ∀ i o, Owns.get E i = some o → OwnRep w O B (β i) o) {o : Oper} {r : List Prop × V} (h : pOp T Q E F o.op = some r) (hp : allP r.1)
    (hops : ∀ x ∈ o.op.operands, RepV w O β (evO F x).t (evO F x).x (a.eval x)) : NYields P (execOp a.eval o) w O β r.2 := by
  obtain ⟨dst, op, ty, pos, after, guard⟩ := o
  simp only at h hops
  have minArgs : ∀ {b : Builtin} {args : Array Operand} {ats : Array TypeId}, (∀ x ∈ (Op.call ⟨.builtin b, args, ats⟩).operands, RepV w O β (evO F x).t (evO F x).x (a.eval x)) → allP (args.toList.map fun x => (strip (evO F x)).1).flatten →
      ∀ (i : Nat) (v : V), (args.toList.map fun x => (strip (evO F x)).2)[i]? = some v → ∃ u, (args.toList.map a.eval)[i]? = some u ∧ RepV w O β v.t v.x u := by
    intro b args ats hops hp i v hv
    rw [List.getElem?_map] at hv
    obtain ⟨x, hx, rfl⟩ := Option.map_eq_some_iff.1 hv
    have hm : x ∈ args.toList := List.mem_of_getElem? hx
    refine ⟨a.eval x, by rw [List.getElem?_map, hx]; rfl, strip_rep (hops x (by simp [Op.operands, Call.operands]; simpa using hm)) ?_⟩
    rw [allP_mem] at hp ⊢
    exact fun p hpm => hp p (List.mem_flatten.2 ⟨_, List.mem_map.2 ⟨x, hm, rfl⟩, hpm⟩)
  have one : ∀ (x : Operand), RepV w O β (evO F x).t (evO F x).x (a.eval x) → allP (strip (evO F x)).1 → RepV w O β (strip (evO F x)).2.t (strip (evO F x)).2.x (a.eval x) := fun x hx hp => strip_rep hx hp
  cases op with
  | move x => cases h; exact .still rfl (hops x (by simp [Op.operands]))
  | assign x => cases h; exact .still rfl (hops x (by simp [Op.operands]))
  | pick c x y =>
    have hc := hops c (by simp [Op.operands])
    have hx := hops x (by simp [Op.operands])
    have hy := hops y (by simp [Op.operands])
    obtain ⟨b, h1, h2⟩ := pickV_rep h hp hc hx hy
    refine .still (u := if b then a.eval x else a.eval y) ?_ h2
    unfold execOp
    simp [h1, asBool]
  | binOp op xt x y yt =>
    obtain ⟨q, h1, rfl⟩ := pre_some h
    simp only [allP_append] at hp
    have hx := one x (hops x (by simp [Op.operands])) hp.1.1
    have hy := one y (hops y (by simp [Op.operands])) hp.1.2
    exact (binV_yields hT h1 hp.2 hx hy (x := x) (y := y)).next
  | unOp op t x =>
    obtain ⟨q, h1, rfl⟩ := pre_some h
    simp only [allP_append] at hp
    exact (unV_yields h1 hp.2 (one x (hops x (by simp [Op.operands])) hp.1)).next
  | convert s d x =>
    obtain ⟨q, h1, rfl⟩ := pre_some h
    simp only [allP_append] at hp
    exact (cvV_yields hT hO h1 hp.2 (dat_rep hown (one x (hops x (by simp [Op.operands])) hp.1))).next
  | index xt x i =>
    obtain ⟨q, h1, rfl⟩ := pre_some h
    simp only [allP_append] at hp
    exact (indexV_yields hT h1 hp.2 (one x (hops x (by simp [Op.operands])) hp.1.1) (one i (hops i (by simp [Op.operands])) hp.1.2)).next
  | indexAddr xt x i =>
    obtain ⟨q, h1, rfl⟩ := pre_some h
    simp only [allP_append] at hp
    exact (indexAddrV_yields hT hown h1 hp.2 (one x (hops x (by simp [Op.operands])) hp.1.1) (one i (hops i (by simp [Op.operands])) hp.1.2)).next
  | load t x =>
    obtain ⟨q, h1, rfl⟩ := pre_some h
    simp only [allP_append] at hp
    exact (loadV_yields hT hown h1 hp.2 (one x (hops x (by simp [Op.operands])) hp.1)).next
  | field xt x n =>
    obtain ⟨q, h1, rfl⟩ := pre_some h
    simp only [allP_append] at hp
    exact (fieldsV_yields hT h1 (one x (hops x (by simp [Op.operands])) hp.1)).next
  | fieldAddr s x n =>
    obtain ⟨q, h1, rfl⟩ := pre_some h
    simp only [allP_append] at hp
    exact (fieldAddrV_yields hT h1 (one x (hops x (by simp [Op.operands])) hp.1)).next
  | extract x n =>
    simp only [pOp] at h
    obtain ⟨v, h1, rfl⟩ := withP_some h
    exact (extract_yields h1 (one x (hops x (by simp [Op.operands])) hp)).next
  | slice xt x lo hi mx =>
    cases mx with
    | some m => cases h
    | none =>
      obtain ⟨q, h1, rfl⟩ := pre_some h
      simp only [allP_append] at hp
      refine (sliceV_yields hT h1 hp.2 (one x (hops x (by simp [Op.operands])) hp.1) (ul := lo.map a.eval) (uh := hi.map a.eval) ?_ (by intro h; cases lo <;> simp_all) ?_ (by intro h; cases hi <;> simp_all)).next
      · intro v hv
        obtain ⟨y, rfl, rfl⟩ := Option.map_eq_some_iff.1 hv
        exact ⟨_, rfl, hops y (by simp [Op.operands])⟩
      · intro v hv
        obtain ⟨y, rfl, rfl⟩ := Option.map_eq_some_iff.1 hv
        exact ⟨_, rfl, hops y (by simp [Op.operands])⟩
  | build t parts =>
    have hps : RepPs w O β (parts.toList.map fun p => (p.1, evO F p.2)) (parts.map fun p => (p.1, a.eval p.2)).toList := by
      rw [Array.toList_map]
      exact repPs_map fun p hpm => hops p.2 (by simp only [Op.operands]; simp; exact ⟨p.1, by simpa using hpm⟩)
    exact (buildV_yields hT h hp hps).next
  | buildSlice t len parts =>
    simp only [pOp] at h
    split at h <;> first | (cases h; done) | skip
    rename_i pq eq xq h1
    cases h
    have hps : RepPs w O β (parts.toList.map fun p => (p.1, evO F p.2)) (parts.map fun p => (p.1, a.eval p.2)).toList := by
      rw [Array.toList_map]
      exact repPs_map fun p hpm => hops p.2 (by simp only [Op.operands]; simp; exact ⟨p.1, by simpa using hpm⟩)
    have hlen : len ≤ maxLen := by
      unfold buildSliceV at h1
      split at h1
      · split at h1
        · rename_i e _ hb
          simp only [Bool.and_eq_true, Nat.ble_eq] at hb
          have hpos : 0 < e.size := by simpa using hb.2
          have := Nat.le_mul_of_pos_right len hpos
          simp only [maxLen]
          omega
        · cases h1
      · cases h1
    exact (buildSliceV_yields hT hO hlen h1 hp hps).next
  | nilCheck x =>
    have hx := hops x (by simp [Op.operands])
    simp only [pOp] at h
    split at h
    · rename_i p t y he
      cases h
      have h1 := one x hx (by rw [he]; exact hp)
      rw [he] at h1
      have h1' := h1
      obtain ⟨g, off, cs, h2, _⟩ := h1
      refine .still (u := a.eval x) ?_ h1'
      unfold execOp
      simp [h2]
    · rename_i p t y he
      cases h
      have h1 := one x hx (by rw [he]; exact hp)
      rw [he] at h1
      have h1' := h1
      obtain ⟨g, h0, h2⟩ := h1
      refine .still (u := a.eval x) ?_ h1'
      unfold execOp
      simp [h2]
    · cases h
  | call c =>
    obtain ⟨callee, args, ats⟩ := c
    simp only [pOp] at h
    split at h
    · split at h
      · rename_i x t ha ht
        obtain ⟨q, h1, rfl⟩ := pre_some h
        simp only [allP_append] at hp
        have ea : args = #[x] := by rw [← Array.toList_inj, ha]
        have et : ats = #[t] := by rw [← Array.toList_inj, ht]
        subst ea; subst et
        have hx := one x (hops x (by simp [Op.operands, Call.operands])) hp.1
        have e : (execOp a.eval ⟨dst, .call ⟨.builtin .len, #[x], #[t]⟩, ty, pos, after, guard⟩).run P w = ((do pure (Next.value (← Builtin.len_ #[t] ty #[a.eval x])) : Sem Next)).run P w := by
          unfold execOp
          simp [resolve, invoke, builtin]
        have := (lenV_yields (P := P) (O := O) hT h1 (dat_rep hown hx) ty).next
        unfold NYields at *
        rw [e]
        exact this
      · cases h
    · obtain ⟨q, h1, rfl⟩ := pre_some h
      simp only [allP_append] at hp
      have e : (execOp a.eval ⟨dst, .call ⟨.builtin .min, args, ats⟩, ty, pos, after, guard⟩).run P w = ((do pure (Next.value (← Builtin.min_ ats ty (args.toList.map a.eval).toArray)) : Sem Next)).run P w := by
        unfold execOp
        rw [map_toArr]
        simp [resolve, invoke, builtin]
      have := (minV_yields (P := P) (O := O) (O' := O) (w := w) (β := β) (Or.inl rfl) h1 (us := args.toList.map a.eval) (minArgs hops hp.1) (by simp) ats ty).1 rfl |>.next
      unfold NYields at *
      rw [e]
      exact this
    · obtain ⟨q, h1, rfl⟩ := pre_some h
      simp only [allP_append] at hp
      have e : (execOp a.eval ⟨dst, .call ⟨.builtin .max, args, ats⟩, ty, pos, after, guard⟩).run P w = ((do pure (Next.value (← Builtin.max_ ats ty (args.toList.map a.eval).toArray)) : Sem Next)).run P w := by
        unfold execOp
        rw [map_toArr]
        simp [resolve, invoke, builtin]
      have := (minV_yields (P := P) (O := O) (O' := O) (w := w) (β := β) (Or.inr rfl) h1 (us := args.toList.map a.eval) (minArgs hops hp.1) (by simp) ats ty).2 rfl |>.next
      unfold NYields at *
      rw [e]
      exact this
    · cases h
  | _ => cases h
end
end Go.Proofs.YtpepbnieocdpbaaDoor
