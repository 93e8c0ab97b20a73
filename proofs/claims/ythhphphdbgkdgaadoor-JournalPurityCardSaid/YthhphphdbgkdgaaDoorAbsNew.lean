/-
  Results that lie in new memory. No program is read here.
-/
import Derived.Test.YthhphphdbgkdgaaDoorAbsBox
namespace Go.Proofs.YthhphphdbgkdgaaDoor
open Go Go.RowKit
set_option linter.unusedSimpArgs false
set_option linter.unusedVariables false
/-- a slice of bytes of its own in memory that was not there before -/
def New (w0 : World) (te : TypeId) (w : World) (v : Value) : Prop := ∃ ys : List UInt8, OwnRep w (fun _ => True) (fun _ => undef) w0.heap.size v (.buf te (.int .u8) ys)
theorem New.grow {w0 w w' : World} {te : TypeId} {v : Value} (h : New w0 te w v) (hk : Below w.heap.size w w') : New w0 te w' v := by
  obtain ⟨ys, h⟩ := h
  exact ⟨ys, h.keep (.of_below hk fun _ _ h => h) fun g hg => hk.block g (h.block_lt hg).2⟩
theorem New.from {w0 w1 w : World} {te : TypeId} {v : Value} (h : New w1 te w v) (hs : w0.heap.size ≤ w1.heap.size) : New w0 te w v := by
  obtain ⟨ys, h⟩ := h
  exact ⟨ys, h.raise fun g hg => Nat.le_trans hs (h.block_lt hg).1⟩
section
variable {P : Program} {w w' : World} {O O' : Nat → Prop} {β : Nat → Value} {T : Tbl} {Q : List TypeId} {C : Ctrs} {E : Owns} {F : Frame} {B : Nat} {a : Act}
theorem OwnRep.flatB {O O' : Nat → Prop} {β β' : Nat → Value} {B : Nat} {bv : Value} {te : TypeId} {t : Ty} {xs : List t.T} (ht : t.flat = true) (h : OwnRep w O β B bv (.buf te t xs)) : OwnRep w O' β' B bv (.buf te t xs) := by
  obtain ⟨cs, h1, h2, h3⟩ := h
  exact ⟨cs, h1.mono fun x _ c => repC_flat t ht x c, h2, h3⟩
/-- the call of a function whose result is the caller's own, met as a view: it lies in new memory -/
theorem cOp_new {G : World → Prop} (hC : CsOk P G C) (hG : G w) (hO : ∀ g, O g → g < w.heap.size) (hown : ∀ i o, Owns.get E i = some o → OwnRep w O β B (β i) o) {o : Oper} {f : FuncId} {args : Array Operand} {ts : Array TypeId} (hop : o.op = .call ⟨.value (.func f), args, ts⟩)
    {c0 : Ctr} (hc0 : cget C f = some c0) {te0 : TypeId} (hte : c0.own = some te0) (hres0 : c0.res = .slice (.int .u8)) {r : List Prop × V} (h : cOp T Q C E F o.op = some r) (hp : allP r.1)
    (hops : ∀ x ∈ o.op.operands, RepV w O β (evO F x).t (evO F x).x (a.eval x)) {K : Act → World → Prop} {R : Exit → Act → World → Prop}
    (hK : ∀ u w', Below w.heap.size w w' → RepV w' O β r.2.t r.2.x u → New w te0 w' u → K (a.put o.dst u) w') : o.wp P a w K R := by
  rw [hop] at h
  unfold cOp at h
  split at h
  · rename_i x args' ts' he
    cases he
    split at h <;> first | (cases h; done) | skip
    rename_i f' cs hcal
    have ef : f' = f := by
      have h9 : calleeV F (.func f) = some (f, []) := rfl
      rw [h9] at hcal
      cases hcal
      rfl
    split at h <;> first | (cases h; done) | skip
    rename_i p c xs h1
    have ec : c = c0 := by
      unfold callV at h1
      rw [ef, hc0] at h1
      simp only at h1
      split at h1
      · split at h1 <;> first | (cases h1; done) | (cases h1; rfl)
      · cases h1
    subst ec
    have h2 := h
    split at h2
    · rename_i hown0
      rw [hown0] at hte
      cases hte
    · rename_i te hown0
      split at h2
      · rename_i τ ys hres hout
        cases h2
        have hnf : c.fl = false := by unfold Ctr.fl; rw [hres]; rfl
        refine callV_wp hC hG hO hown hop hcal h1 hp hops fun v w' hb hr => ?_
        simp only [hown0] at hr
        have hr' : OwnRep w' (fun g => (c.fl = false ∧ O g) ∨ blockOf v = some g) β w.heap.size v (.buf te τ ys) := by
          revert hr
          generalize c.out xs = x at hout ⊢
          revert x
          rw [hres]
          intro x hx hr
          cases hx
          exact hr
        have e9 : te = te0 := by rw [hown0] at hte; cases hte; rfl
        have e8 : τ = .int .u8 := by rw [hres] at hres0; cases hres0; rfl
        subst e9
        subst e8
        exact hK v w' hb (repD_repV (hr'.toView (fun g _ h => .inl ⟨hnf, h⟩) fun g h => hO g h)) ⟨ys, OwnRep.flatB rfl hr'⟩
      · cases h2
  · rename_i hno
    exact absurd rfl (hno _ _ _)
end
section
variable {P : Program} {K : Kn} {w0 : World} {X : Ownr} {n : Nat} {σ : AS} {β : Nat → Value} {a : Act} {w : World} {R : Exit → Act → World → Prop} {ops : Array Oper}
/-- a region that draws its order, one of its calls giving new memory -/
theorem draw_new (hK : KnOk P X.G K) (hX : X.Ok w0) (h : Sim w0 X n σ β a w) {m : Nat} (hB : headB ops m = true) {r1 : List Prop × AS} (h1 : aHead K n ops (ops.toList.take m) σ = some r1) (hp1 : allP r1.1)
    {j0 : Nat} (hj0 : j0 < m) {o0 : Oper} (ho0 : ops[j0]? = some o0) {d0 : Nat} (hd0 : o0.dst = some d0) (hg0 : o0.guard = none) {f : FuncId} {args : Array Operand} {ts : Array TypeId} (hop0 : o0.op = .call ⟨.value (.func f), args, ts⟩) {c0 : Ctr} (hc0 : cget K.C f = some c0) {te : TypeId} (hte : c0.own = some te) (hres0 : c0.res = .slice (.int .u8))
    (hR : ∀ a' w', Sim w0 X n r1.2 β a' w' → New w0 te w' (a'.tmps.getD d0 undef) → wpList P ops R (ops.toList.drop m) a' w') : wpAny P .any ops R ops.size (Array.replicate ops.size false) a { w with drawn := w.drawn + 1 } := by
  simp only [headB, Bool.and_eq_true, Nat.ble_eq] at hB
  obtain ⟨⟨⟨⟨hms, hflow⟩, hback⟩, htl0⟩, hseq⟩ := hB
  have htl : m = ops.size ∨ (Region.sinkB .any ops m = true ∧ Region.chainB .any ops m = true) := by
    simp only [Bool.or_eq_true, Bool.and_eq_true, Nat.beq_eq] at htl0
    exact htl0
  obtain ⟨rs, hl, hps, hr1, hspec⟩ := aHead_spec _ _ _ h1
  have hlen : (ops.toList.take m).length = m := by simp; omega
  rw [hlen] at hl
  have hget : ∀ i, i < m → ∃ o d q, ops[i]? = some o ∧ o.dst = some d ∧ d < n ∧ rs[i]? = some q ∧ gOp K n ops σ.E (putsF σ.F (ops.toList.take i) ((rs.map (·.2)).take i)) o = some q := by
    intro i hi
    have hlt : i < ops.size := by omega
    obtain ⟨d, q, e1, e2, e3, e4⟩ := hspec i ops[i] (by rw [List.getElem?_take, if_pos hi]; simp [hlt])
    rw [List.take_take, Nat.min_eq_left (by omega)] at e4
    exact ⟨ops[i], d, q, by simp [hlt], e1, e2, e3, e4⟩
  have hsome : ∀ k, k ≤ m → ∀ o ∈ ops.toList.take k, o.dst.isSome = true := by
    intro k hk o ho
    obtain ⟨i, hi⟩ := List.mem_iff_getElem?.1 ho
    rw [List.getElem?_take] at hi
    split at hi
    · obtain ⟨o', d, q, e1, e2, _⟩ := hget i (by omega)
      have : o' = o := by
        have : ops.toList[i]? = some o' := by simpa using e1
        rw [this] at hi; cases hi; rfl
      rw [← this, e2]; rfl
    · cases hi
  -- the flow
  have hdist : ∀ i j oi oj, i < m → j < m → ops[i]? = some oi → ops[j]? = some oj → i ≠ j → oi.dst ≠ oj.dst := by
    intro i j oi oj hi hj hoi hoj hij
    have h3 := List.all_eq_true.1 hflow j (List.mem_range.2 hj)
    rw [hoj] at h3
    have h4 := List.all_eq_true.1 h3 i (List.mem_range.2 hi)
    rw [hoi] at h4
    simp only [Bool.and_eq_true, Bool.or_eq_true, Nat.beq_eq, Bool.not_eq_true'] at h4
    rcases h4.1 with h5 | h5
    · exact absurd h5 hij
    · intro e; rw [e] at h5; simp at h5
  have hdep : ∀ i j oi oj t, i < m → j < m → ops[i]? = some oi → ops[j]? = some oj → t ∈ seesT ops oj → oi.dst = some t → i < j ∧ ∃ e ∈ oj.after, e.on = i ∧ Region.binds .any e = true := by
    intro i j oi oj t hi hj hoi hoj ht hd
    have h3 := List.all_eq_true.1 hflow j (List.mem_range.2 hj)
    rw [hoj] at h3
    have h4 := List.all_eq_true.1 h3 i (List.mem_range.2 hi)
    rw [hoi] at h4
    simp only [Bool.and_eq_true] at h4
    have h5 := List.all_eq_true.1 h4.2 t ht
    rw [hd] at h5
    simp only [beq_self_eq_true, Bool.not_true, Bool.false_or, Bool.and_eq_true] at h5
    refine ⟨by simpa using h5.1, ?_⟩
    obtain ⟨e, he, h6⟩ := Array.any_eq_true'.1 h5.2
    simp only [Bool.and_eq_true, Nat.beq_eq] at h6
    exact ⟨e, he, h6.1, h6.2⟩
  let W := w.drew
  have hsim : Sim w0 X n σ β a W := ⟨h.sz, h.df, h.bel.then ((Below.refl _ _).drew), fun s => RepV.keep (.of_below ((Below.refl _ _).drew) fun _ _ h => h) _ _ _ (h.fr s), fun i o ho => (h.own i o ho).keep (.of_below ((Below.refl _ _).drew) fun _ _ h => h) fun _ _ => rfl, h.new, h.inj, h.lt, h.fix, h.hb, h.hE⟩
  let I : Array Bool → Act → World → Prop := fun listed a' w' =>
    a'.tmps.size = n ∧ a'.defers = X.D ∧ Below W.heap.size W w' ∧ (∀ s, (∀ i o, i < m → ops[i]? = some o → o.dst ≠ some s) → a'.tmps.getD s undef = a.tmps.getD s undef) ∧
    (∀ i o d q, i < m → ops[i]? = some o → o.dst = some d → rs[i]? = some q → listed.getD i false = true → RepV w' (OSet X σ.E β) β q.2.t q.2.x (a'.tmps.getD d undef)) ∧ (listed.getD j0 false = true → New w0 te w' (a'.tmps.getD d0 undef))
  have hsum : ops.size = left (Array.replicate ops.size false) m + (ops.size - m) := by
    have : left (Array.replicate ops.size false) m = m := by
      unfold left
      have : (List.range m).filter (fun i => !(Array.replicate ops.size false).getD i false) = List.range m := by
        rw [List.filter_eq_self]
        intro i _
        rw [getD_replicate_false]
        rfl
      rw [this, List.length_range]
    omega
  have hown : ∀ w', Below W.heap.size W w' → ∀ i o, Owns.get σ.E i = some o → OwnRep w' (OSet X σ.E β) β 0 (β i) o := fun w' hb i o ho =>
    (hsim.own i o ho).keep (.of_below hb fun _ _ h => h) fun g hg => hb.block g ((hsim.own i o ho).block_lt hg).2
  have hO : ∀ w', Below W.heap.size W w' → ∀ g, OSet X σ.E β g → g < w'.heap.size := fun w' hb g hg => Nat.lt_of_lt_of_le (hsim.hO hX g hg) hb.size
  suffices hkey : wpAny P .any ops R (left (Array.replicate ops.size false) m + (ops.size - m)) (Array.replicate ops.size false) a W by
    rw [← hsum] at hkey
    exact hkey
  refine wpAny_head hms hback htl I ?_ ?_ _ _ a W rfl ⟨by simp, fun j oj _ hlj => (by rw [getD_replicate_false] at hlj; cases hlj), fun t _ ht => getD_in (by simpa using ht) (getD_replicate_false _ _)⟩ ⟨h.sz, h.df, Below.refl _ _, fun _ _ => rfl, fun i o d q _ _ _ _ hli => (by rw [getD_replicate_false] at hli; cases hli), fun hlj => by rw [getD_replicate_false] at hlj; cases hlj⟩
  · -- an operation of the head comes up
    rintro listed a' w' ⟨i1, i2, i3, i4, i5, i6⟩ i him hir
    obtain ⟨hun, o', ho', hdone⟩ := mem_ready.1 hir
    obtain ⟨o, d, q, ho, hd, hdn, hq, hg⟩ := hget i him
    have : o' = o := by rw [ho] at ho'; cases ho'; rfl
    subst this
    unfold wpOp
    rw [ho]
    simp only
    have hqp : allP q.1 := hps hp1 q (List.mem_of_getElem? hq)
    have hsees : ∀ t ∈ seesT ops o', RepV w' (OSet X σ.E β) β (Frame.get (putsF σ.F (ops.toList.take i) ((rs.map (·.2)).take i)) t).t (Frame.get (putsF σ.F (ops.toList.take i) ((rs.map (·.2)).take i)) t).x (a'.tmps.getD t undef) := fun t ht => by
      by_cases hex : ∃ k ok, k < m ∧ ops[k]? = some ok ∧ ok.dst = some t
      · obtain ⟨k, ok, hkm, hok, hkd⟩ := hex
        obtain ⟨hki, e, he, heon, heb⟩ := hdep k i ok o' t hkm him hok ho ht hkd
        have hlk := hdone e he heb
        rw [heon] at hlk
        obtain ⟨ok', dk, qk, g1, g2, g3, g4, g5⟩ := hget k hkm
        have : ok' = ok := by rw [hok] at g1; cases g1; rfl
        subst this
        have hv := putsF_at (ops.toList.take i) ((rs.map (·.2)).take i) σ.F t k ok' qk.2 (hsome i (by omega)) (by rw [List.getElem?_take, if_pos hki]; simpa using hok) hkd
          (by rw [List.getElem?_take, if_pos hki, List.getElem?_map, g4]; rfl) (fun k' o'' hkk hk' => by
            rw [List.getElem?_take] at hk'
            split at hk'
            · have := hdist k' k o'' ok' (by omega) hkm (by simpa using hk') hok (by omega)
              rw [hkd] at this; exact this
            · cases hk')
        rw [hv]
        exact i5 k ok' t qk hkm hok hkd g4 hlk
      · have hno : ∀ o ∈ ops.toList.take i, o.dst ≠ some t := by
          intro o2 ho2 hd2
          obtain ⟨k, hk⟩ := List.mem_iff_getElem?.1 ho2
          rw [List.getElem?_take] at hk
          split at hk
          · exact hex ⟨k, o2, by omega, by simpa using hk, hd2⟩
          · cases hk
        rw [putsF_other _ _ _ _ (hsome i (by omega)) hno, i4 t fun k ok hk hok hdk => hex ⟨k, ok, hk, hok, hdk⟩]
        exact RepV.keep (.of_below i3 fun _ _ h => h) _ _ _ (hsim.fr t)
    have hend : ∀ u w2, Below w'.heap.size w' w2 → RepV w2 (OSet X σ.E β) β q.2.t q.2.x u → (i = j0 → New w0 te w2 u) → I (listed.setIfInBounds i true) (a'.put o'.dst u) w2 := fun u w2 hb2 hr2 hn2 => by
      have hb : Below W.heap.size W w2 := i3.trans (hb2.mono i3.size)
      rw [hd]
      refine ⟨by rw [Act.put_size]; exact i1, by rw [Act.put_defers]; exact i2, hb, fun s hs => ?_, fun j oj dj qj hj hoj hdj hqj hlj => ?_, fun hl0 => ?_⟩
      · rw [Act.put_get (by rw [i1]; exact hdn), if_neg (fun e => hs i o' him ho (by rw [hd, e]))]
        exact i4 s hs
      · rw [Act.put_get (by rw [i1]; exact hdn)]
        by_cases hji : i = j
        · subst hji
          have : oj = o' := by rw [ho] at hoj; cases hoj; rfl
          subst this
          have : dj = d := by rw [hd] at hdj; cases hdj; rfl
          subst this
          have : qj = q := by rw [hq] at hqj; cases hqj; rfl
          subst this
          rw [if_pos rfl]
          exact hr2
        · have hne : d ≠ dj := fun e => hdist i j o' oj him hj ho hoj hji (by rw [hd, hdj, e])
          rw [if_neg hne]
          rw [getD_set_ne false hji] at hlj
          exact RepV.keep (.of_below hb2 fun _ _ h => h) _ _ _ (i5 j oj dj qj hj hoj hdj hqj hlj)
      · rw [Act.put_get (by rw [i1]; exact hdn)]
        by_cases hji : i = j0
        · have : d = d0 := by
            subst hji
            rw [ho0] at ho
            cases ho
            rw [hd0] at hd
            cases hd
            rfl
          rw [if_pos this]
          exact hn2 hji
        · have hne : d ≠ d0 := fun e => hdist i j0 o' o0 him hj0 ho ho0 hji (by rw [hd, hd0, e])
          rw [if_neg hne]
          rw [getD_set_ne false hji] at hl0
          exact (i6 hl0).grow hb2
    by_cases hi0 : i = j0
    · have eo : o' = o0 := by subst hi0; rw [ho0] at ho; cases ho; rfl
      have hg' := hg
      unfold gOp at hg'
      rw [eo, hg0] at hg'
      have hcop : cOp K.T K.Q K.C σ.E (putsF σ.F (ops.toList.take i) ((rs.map (·.2)).take i)) o0.op = some q := by
        simp only at hg'
        split at hg'
        · rename_i p t x hc1
          split at hg'
          · cases hg'; exact hc1
          · cases hg'
        · cases hg'
      have hwt : Region.wanted o' (yielded ops a'.tmps) = true := by rw [eo]; simp only [Region.wanted, hg0]
      rw [if_pos hwt]
      refine .inl ?_
      have hops2 : ∀ x ∈ o0.op.operands, RepV w' (OSet X σ.E β) β (evO (putsF σ.F (ops.toList.take i) ((rs.map (·.2)).take i)) x).t (evO (putsF σ.F (ops.toList.take i) ((rs.map (·.2)).take i)) x).x (a'.eval x) := fun x hx => evO_rep fun s hs => hsees s (by
        rw [eo]
        unfold seesT
        refine List.mem_append.2 (.inl (List.mem_filterMap.2 ⟨x, by simpa using hx, ?_⟩))
        rw [hs])
      have hdo : o'.dst = o0.dst := by rw [eo]
      rw [eo]
      refine cOp_new hK.c (hX.2.2 w' (hsim.bel.then i3)) (hO w' i3) (hown w' i3) hop0 hc0 hte hres0 hcop hqp hops2 fun u w2 hb2 hr2 hn2 => ?_
      rw [← hdo]
      exact hend u w2 hb2 hr2 fun _ => hn2.from (Nat.le_trans h.bel.size i3.size)
    · exact gOp_wp hK (hX.2.2 w' (hsim.bel.then i3)) (hO w' i3) (hown w' i3) hg hqp i1 hsees fun u w2 hb2 hr2 => hend u w2 hb2 hr2 fun e => absurd e hi0
  · -- the tail
    rintro listed a' w' inv hall ⟨i1, i2, i3, i4, i5, i6⟩
    have hlist : listed = (List.replicate m true ++ List.replicate (ops.size - m) false).toArray := by
      apply Array.ext
      · rw [inv.size]; simp; omega
      · intro i h1 h2
        rw [inv.size] at h1
        by_cases him : i < m
        · have := hall i him
          simp only [Array.getD, show i < listed.size by rw [inv.size]; exact h1, dif_pos] at this
          have e : listed[i] = true := this
          rw [e]
          simp [List.getElem_append, him]
        · have := inv.tail i (by omega) h1
          have := getD_both this
          simp only [Array.getD, show i < listed.size by rw [inv.size]; exact h1, dif_pos] at this
          have e : listed[i] = false := this
          rw [e]
          simp [List.getElem_append, him]
    subst hlist
    have hfin : Sim w0 X n r1.2 β a' w' := by
      rw [hr1]
      refine ⟨i1, i2, hsim.bel.then i3, fun s => ?_, hown w' i3, hsim.new, hsim.inj, hsim.lt, hsim.fix, fun s => ?_, hsim.hE⟩
      · show RepV w' (OSet X σ.E β) β (Frame.get (putsF σ.F (ops.toList.take m) (rs.map (·.2))) s).t _ _
        by_cases hex : ∃ k ok, k < m ∧ ops[k]? = some ok ∧ ok.dst = some s
        · obtain ⟨k, ok, hkm, hok, hkd⟩ := hex
          obtain ⟨ok', dk, qk, g1, g2, g3, g4, g5⟩ := hget k hkm
          have : ok' = ok := by rw [hok] at g1; cases g1; rfl
          subst this
          have hv := putsF_at (ops.toList.take m) (rs.map (·.2)) σ.F s k ok' qk.2 (hsome m (Nat.le_refl _)) (by rw [List.getElem?_take, if_pos hkm]; simpa using hok) hkd
            (by rw [List.getElem?_map, g4]; rfl) (fun k' o'' hkk hk' => by
              rw [List.getElem?_take] at hk'
              split at hk'
              · have := hdist k' k o'' ok' (by omega) hkm (by simpa using hk') hok (by omega)
                rw [hkd] at this; exact this
              · cases hk')
          rw [hv]
          exact i5 k ok' s qk hkm hok hkd g4 (hall k hkm)
        · have hno : ∀ o ∈ ops.toList.take m, o.dst ≠ some s := by
            intro o2 ho2 hd2
            obtain ⟨k, hk⟩ := List.mem_iff_getElem?.1 ho2
            rw [List.getElem?_take] at hk
            split at hk
            · exact hex ⟨k, o2, by omega, by simpa using hk, hd2⟩
            · cases hk
          rw [putsF_other _ _ _ _ (hsome m (Nat.le_refl _)) hno, i4 s fun k ok hk hok hdk => hex ⟨k, ok, hk, hok, hdk⟩]
          exact RepV.keep (.of_below i3 fun _ _ h => h) _ _ _ (hsim.fr s)
      · show (Frame.get (putsF σ.F (ops.toList.take m) (rs.map (·.2))) s).bound ≤ σ.nx
        have hbd : ∀ k, k ≤ m → ∀ s, (Frame.get (putsF σ.F (ops.toList.take k) ((rs.map (·.2)).take k)) s).bound ≤ σ.nx := by
          intro k
          induction k with
          | zero => intro _ s; simpa [putsF] using hsim.hb s
          | succ k ih =>
            intro hk s
            obtain ⟨o, d, q, e1, e2, e3, e4, e5⟩ := hget k (by omega)
            have hb := gOp_bound e5 (ih (by omega)) (fun i o ho => ⟨hsim.lt i o ho, hsim.hE i o ho⟩) fun t τ ht => (hK.t.lay t τ ht).data
            by_cases hsd : o.dst = some s
            · have hv := putsF_at (ops.toList.take (k + 1)) ((rs.map (·.2)).take (k + 1)) σ.F s k o q.2 (hsome (k + 1) hk) (by rw [List.getElem?_take, if_pos (by omega)]; simpa using e1) hsd
                (by rw [List.getElem?_take, if_pos (by omega), List.getElem?_map, e4]; rfl) (fun k' o'' hkk hk' => by
                  rw [List.getElem?_take] at hk'
                  split at hk'
                  · omega
                  · cases hk')
              rw [hv]
              exact hb
            · by_cases hex : ∃ k' ok, k' < k ∧ ops[k']? = some ok ∧ ok.dst = some s
              · obtain ⟨k', ok, hk', hok, hkd⟩ := hex
                obtain ⟨ok', dk, qk, g1, g2, g3, g4, g5⟩ := hget k' (by omega)
                have : ok' = ok := by rw [hok] at g1; cases g1; rfl
                subst this
                have both : ∀ j, k' < j → j ≤ m → Frame.get (putsF σ.F (ops.toList.take j) ((rs.map (·.2)).take j)) s = qk.2 := fun j hj hjm =>
                  putsF_at _ _ σ.F s k' ok' qk.2 (hsome j hjm) (by rw [List.getElem?_take, if_pos hj]; simpa using hok) hkd
                    (by rw [List.getElem?_take, if_pos hj, List.getElem?_map, g4]; rfl) (fun k2 o'' hkk hk2 => by
                      rw [List.getElem?_take] at hk2
                      split at hk2
                      · have := hdist k2 k' o'' ok' (by omega) (by omega) (by simpa using hk2) hok (by omega)
                        rw [hkd] at this; exact this
                      · cases hk2)
                rw [both (k + 1) (by omega) hk, ← both k hk' (by omega)]
                exact ih (by omega) s
              · have hno : ∀ o ∈ ops.toList.take (k + 1), o.dst ≠ some s := by
                  intro o2 ho2 hd2
                  obtain ⟨k2, hk2⟩ := List.mem_iff_getElem?.1 ho2
                  rw [List.getElem?_take] at hk2
                  split at hk2
                  · have hk2' : ops[k2]? = some o2 := by simpa using hk2
                    by_cases hkk : k2 = k
                    · subst hkk
                      rw [e1] at hk2'
                      cases hk2'
                      exact hsd hd2
                    · exact hex ⟨k2, o2, by omega, hk2', hd2⟩
                  · cases hk2
                rw [putsF_other _ _ _ _ (hsome (k + 1) hk) hno]
                exact hsim.hb s
        have := hbd m (Nat.le_refl _) s
        rwa [List.take_of_length_le (l := rs.map (·.2)) (by simp [hl])] at this
    have hlt : (ops.toList.drop m).length = ops.size - m := by simp
    have := wpAny_of_seq (P := P) (md := .any) (Q' := R) (ops := ops) (ops.toList.drop m) m (List.replicate m true ++ List.replicate (ops.size - m) false).toArray a' w' (fun j => by simp [List.getElem?_drop]) (by rw [hlt]; exact hseq) (hR a' w' hfin (i6 (hall j0 hj0)))
    rwa [hlt] at this
end
/-! ### an end met by hand -/
section
variable {P : Program} {K : Kn} {w0 : World} {X : Ownr} {n : Nat} {σ : AS} {R : Exit → Act → World → Prop}
def AWPR (P : Program) (w0 : World) (X : Ownr) (n : Nat) (c : Code) (σ : AS) (R : Exit → Act → World → Prop) : Prop := ∀ β a w, Sim w0 X n σ β a w → c.wpIn (wideR X.ρ) 0 P R a w
/-- the walk ends here -/
def EndR (w0 : World) (X : Ownr) (n : Nat) (R : Exit → Act → World → Prop) (e : Exit) (σ : AS) : Prop := ∀ β a w, Sim w0 X n σ β a w → R e a w
theorem AWPR.seq {x y : Code} (h : AWP P w0 X n x σ (thenQ (fun σ' => AWPR P w0 X n y σ' R) (EndR w0 X n R))) : AWPR P w0 X n (.seq x y) σ R :=
  fun β a w hs => wpIn_seq (Go.wpIn_mono (h β a w hs) fun e a w ⟨σ', β', h1, h2⟩ => by
    cases e with
    | normal => exact h2 β' a w h1
    | _ => exact h2 β' a w h1)
theorem AWPR.of {c : Code} (h : AWP P w0 X n c σ (EndR w0 X n R)) : AWPR P w0 X n c σ R :=
  fun β a w hs => Go.wpIn_mono (h β a w hs) fun e a w ⟨σ', β', h1, h2⟩ => h2 β' a w h1
theorem AWPR.retAfter {x : Code} (h : AWPR P w0 X n x σ (fun e a w => e = .normal ∧ R .ret a w)) : AWPR P w0 X n (.seq x .ret) σ R :=
  fun β a w hs => wpIn_seq (Go.wpIn_mono (h β a w hs) fun e a w ⟨he, h2⟩ => by
    subst he
    exact wpIn_ret h2)
theorem AWPR.fit {c : Code} {σ2 : AS} (hf : Fit σ σ2) (hK : X.K = 0) (h : AWPR P w0 X n c σ2 R) : AWPR P w0 X n c σ R :=
  fun β a w hs => h β a w (hs.fit hf (by rw [hK]; exact Nat.zero_le _))
theorem AWPR.frz (hX : X.Ok w0) (s : Nat) {c : Code} (h : AWPR P w0 X n c (Go.Proofs.YthhphphdbgkdgaaDoor.frz σ (.tmp s)) R) : AWPR P w0 X n c σ R :=
  fun β a w hs => h β a w (hs.frz hX (.tmp s))
theorem thenQ_ret {N : AS → Prop} {Q : Exit → AS → Prop} (h : Q .ret σ) : thenQ N Q .ret σ := h
theorem thenQ_normal {N : AS → Prop} {Q : Exit → AS → Prop} (h : N σ) : thenQ N Q .normal σ := h
theorem thenQ_exit {N : AS → Prop} {Q : Exit → AS → Prop} {j : Nat} (h : Q (.exit j) σ) : thenQ N Q (.exit j) σ := h
end
def noO : Nat → Prop := fun _ => False
section
variable {P : Program} {K : Kn} {w0 : World} {G : World → Prop} {X : Ownr} {n : Nat} {σ : AS} {β : Nat → Value} {a : Act} {w : World} {R : Exit → Act → World → Prop} {ops : Array Oper}
/-- what a slot holds, as it is -/
theorem Sim.litAt (h : Sim w0 X n σ β a w) (d : Nat) : Sim w0 X n ⟨(d, ⟨.lit, a.tmps.getD d undef⟩) :: σ.F, σ.E, σ.nx⟩ β a w := by
  refine ⟨h.sz, h.df, h.bel, fun s => ?_, h.own, h.new, h.inj, h.lt, h.fix, fun s => ?_, h.hE⟩
  · rw [Frame.get_cons]
    by_cases e : d = s
    · rw [if_pos e, ← e]; rfl
    · rw [if_neg e]; exact h.fr s
  · rw [Frame.get_cons]
    by_cases e : d = s
    · rw [if_pos e]; exact Nat.zero_le _
    · rw [if_neg e]; exact h.hb s
/-- an operation met by hand, its value known -/
theorem wpList_lit {o : Oper} {l : List Oper} {d : Nat} {u : Value} (h : Sim w0 X n σ β a w) (hg : o.guard = none) (hdst : o.dst = some d) (hd : Nat.blt d n = true) (hr : (execOp a.eval o).run P w = .ok (.value u) w)
    (hn : ∀ a', Sim w0 X n ⟨(d, ⟨.lit, u⟩) :: σ.F, σ.E, σ.nx⟩ β a' w → wpList P ops R l a' w) : wpList P ops R (o :: l) a w := by
  refine wpList_one hg hr ?_
  rw [hdst]
  exact hn _ (h.put (Below.refl _ _) (v := ⟨.lit, u⟩) rfl (Nat.zero_le _) (by simpa using hd))
/-- the region in which new memory comes, its order drawn -/
theorem AWPR.draw (hm : P.follows .mixedOrders = true) (hX : (Ownr.plain G noO).Ok w0) (hK : KnOk P G K) {id : Nat} (m : Nat) (hB : headB ops m = true) {r1 : List Prop × AS} (h1 : aHead K n ops (ops.toList.take m) σ = some r1) (hp1 : allP r1.1)
    {j0 : Nat} (hj0 : j0 < m) {o0 : Oper} (ho0 : ops[j0]? = some o0) {d0 : Nat} (hd0 : o0.dst = some d0) (hg0 : o0.guard = none) {f : FuncId} {args : Array Operand} {ts : Array TypeId} (hop0 : o0.op = .call ⟨.value (.func f), args, ts⟩) {c0 : Ctr} (hc0 : cget K.C f = some c0) {te : TypeId} (hte : c0.own = some te) (hres0 : c0.res = .slice (.int .u8))
    {xs : List UInt8} (hxs : Frame.get r1.2.F d0 = ⟨.slice (.int .u8), xs⟩)
    (hend : ∀ β a' w' u, Sim w0 (Ownr.plain G noO) n ⟨(d0, ⟨.lit, u⟩) :: r1.2.F, r1.2.E, r1.2.nx⟩ β a' w' → New w0 te w' u → RepS w' noO (RepC w' noO (.int .u8)) xs u → (xs ≠ [] → ∀ i o, Owns.get r1.2.E i = some o → ∀ g, blockOf u = some g → blockOf (β i) ≠ some g) → wpList P ops (fun e a w => e = .normal ∧ R .normal a w) (ops.toList.drop m) a' w') (hd : noDefer ops.toList = true := by rfl) : AWPR P w0 (Ownr.plain G noO) n (.region id ops true) σ R := by
  intro β a w h
  refine Go.wpIn_mono (wpIn_region_any hm (wpAnyIn_of_wpAny (R := fun e a w => e = .normal ∧ R .normal a w) not_lets hd _ (draw_new (R := fun e a w => e = .normal ∧ R .normal a w) hK hX h hB h1 hp1 hj0 ho0 hd0 hg0 hop0 hc0 hte hres0 fun a' w' hs hn => ?_))) fun e a w ⟨he, h'⟩ => by
    subst he; exact h'
  have hv := hs.fr d0
  rw [hxs] at hv
  refine hend β a' w' _ (hs.litAt d0) hn ((RepV.slice hv).keep ⟨Nat.le_refl _, fun _ _ _ => rfl, fun _ _ h => h.elim⟩ fun x c => RepC.keep ⟨Nat.le_refl _, fun _ _ _ => rfl, fun _ _ h => h.elim⟩ _ _ _) fun hxn i o ho g hg hgi => ?_
  rcases RepV.slice hv with ⟨e, _⟩ | ⟨g', off, c, vs, e, _, _, _, _, h6, _⟩
  · exact hxn e
  · rw [e] at hg
    cases hg
    exact h6 (.inr ⟨i, o, ho, hgi⟩)
/-- the same, in the text's order: the new memory is the call's own so far -/
theorem AWPR.own (hX : (Ownr.plain G noO).Ok w0) (hK : KnOk P G K) {id : Nat} (m : Nat) {r1 : List Prop × AS} (h1 : aSeq K n ops (ops.toList.take m) σ = some r1) (hp1 : allP r1.1)
    {d0 : Nat} {τ' : Ty} {xs : List UInt8} {k : Nat} {te : TypeId} (hxs : Frame.get r1.2.F d0 = ⟨.obuf τ', k⟩) (hk : Owns.get r1.2.E k = some (.buf te (.int .u8) xs))
    (hend : ∀ β a' w' u, Sim w0 (Ownr.plain G noO) n ⟨(d0, ⟨.lit, u⟩) :: r1.2.F, r1.2.E, r1.2.nx⟩ β a' w' → New w0 te w' u → RepS w' noO (RepC w' noO (.int .u8)) xs u → (∀ i o, Owns.get r1.2.E i = some o → i ≠ k → ∀ g, blockOf u = some g → blockOf (β i) ≠ some g) → wpList P ops (fun e a w => e = .normal ∧ R .normal a w) (ops.toList.drop m) a' w') (hd1 : noDefer (ops.toList.take m) = true := by rfl) (hd2 : noDefer (ops.toList.drop m) = true := by rfl) : AWPR P w0 (Ownr.plain G noO) n (.region id ops false) σ R := by
  intro β a w h
  refine Go.wpIn_mono (Q := fun e a w => e = .normal ∧ R .normal a w) (wpIn_region_list ?_) fun e a w ⟨he, h'⟩ => by
    subst he; exact h'
  rw [show ops.toList = ops.toList.take m ++ ops.toList.drop m from (List.take_append_drop m _).symm]
  refine wpListIn_append _ _ (wpListIn_of_wpList (ρ := none) not_lets _ hd1 (aSeq_wp hK hX _ h h1 hp1 fun β' a' w' hs => ⟨rfl, ?_⟩))
  refine wpListIn_of_wpList (ρ := none) not_lets _ hd2 ?_
  have hv := hs.fr d0
  rw [hxs] at hv
  have hv : a'.tmps.getD d0 undef = β' k := hv
  have ho := hs.own k _ hk
  have hnew : ∀ g, blockOf (β' k) = some g → w0.heap.size ≤ g := fun g hg => by
    rcases hs.new k _ g hk hg with h9 | h9
    · exact h9
    · exact (Ownr.plain_noR _ _ _ h9).elim
  have hlit := hs.litAt d0
  rw [hv] at hlit
  refine hend β' a' w' _ hlit ⟨xs, OwnRep.flatB rfl (ho.raise hnew)⟩ ?_ fun i o hi hik g hg hgi => hs.inj i k _ _ hi hk hik g hgi hg
  have h9 : RepD w' noO (.slice (.int .u8)) xs (β' k) := OwnRep.view ho (fun _ _ h => h.elim) fun _ _ h => h
  exact RepV.slice (β := β') h9
/-- a call's start for a walk that ends by hand -/
theorem calls_of_awpr {f : FuncId} {fn : Func} {c : Code} (hf : P.funcs[f]? = some fn) (hb : fn.body = some c) (hn : fn.ntmps = n) {ts : List Ty} (hd : allData ts = true) (hlen : ts.length ≤ n) {xs : Args ts} {vs : List Value} {w : World} {O : Nat → Prop} (hrep : RepA w O ts xs vs) {E : Ending → World → Prop}
    (h : AWPR P w (Ownr.plain G O) n c (initS ts xs) (fun e a' w' => (e = .normal ∨ e = .ret) ∧ a'.defers = [] ∧ ∃ v, (results fn a'.tmps).run P w' = .ok v w' ∧ E (.returned v) w')) : Calls P f vs.toArray w E := by
  refine calls_of_wp hf hb ?_
  have hvl := repA_len _ _ _ hrep
  have hsim : Sim w (Ownr.plain G O) n (initS ts xs) (fun _ => undef) { tmps := vs.toArray ++ Array.replicate (fn.ntmps - vs.toArray.size) undef, defers := [] } w := by
    have hE : OSet (Ownr.plain G O) (initS ts xs).E (fun _ => undef) = O := by
      funext g
      apply propext
      constructor
      · rintro (h | ⟨i, o, h, _⟩)
        · exact h
        · cases h
      · exact fun h => .inl h
    refine ⟨by simp [hn, hvl]; omega, rfl, Kept.refl _ _, fun s => ?_, fun i o h => (by cases h), fun i o g h => (by cases h), fun i j oi oj h => (by cases h), fun i o h => (by cases h), ⟨Nat.zero_le _, fun i h => absurd h (Nat.not_lt_zero _)⟩, fun s => ?_, fun i o h => (by cases h)⟩
    · rw [hE]
      have := initF_rep (β := fun _ => undef) ts xs vs [] (List.replicate (fn.ntmps - vs.length) undef) hd hrep s
      simp only [List.nil_append, List.length_nil] at this
      have e : (vs.toArray ++ Array.replicate (fn.ntmps - vs.toArray.size) undef) = (vs ++ List.replicate (fn.ntmps - vs.length) undef).toArray := by simp
      show RepV w O _ _ _ ((vs.toArray ++ Array.replicate (fn.ntmps - vs.toArray.size) undef).getD s undef)
      rw [e]
      exact this
    · show (Frame.get (initF ts xs 0) s).bound ≤ 0
      rw [initF_bound _ _ _ _ hd]
      exact Nat.le_refl _
  refine wp_mono (wpIn_wide.1 (h _ _ _ hsim)) fun e a' w' ⟨h2, h3, v, h4, h5⟩ => ?_
  rcases h2 with rfl | rfl
  · exact ⟨h3, v, h4, h5⟩
  · exact ⟨h3, v, h4, h5⟩
end
/-! ### rows of new memory -/
section
variable {P : Program} {K : Kn} {G : World → Prop} {n : Nat} {σ : AS} {β : Nat → Value} {a : Act} {w : World} {g : Nat}
def oneO (g : Nat) : Nat → Prop := fun h => h = g
theorem kept_row {w w' : World} {cs : Array Value} (h : Below w.heap.size w w') : Kept (oneO g) w (w'.setRow g cs) :=
  ⟨h.os, h.tape, h.output, Nat.le_trans h.size (by simp), fun k hk hr => (setRow_other w' g k cs hr).trans (h.block k hk)⟩
/-- slots without handles -/
def dF : V → Bool
  | ⟨.lit, _⟩ => true
  | ⟨.junk, _⟩ => true
  | ⟨t, _⟩ => t.data
theorem dF_rep {O : Nat → Prop} {β' : Nat → Value} {v : V} {u : Value} (h : dF v = true) (hr : RepV w O β v.t v.x u) : RepV w O β' v.t v.x u := by
  obtain ⟨t, x⟩ := v
  cases t <;> first
    | exact hr
    | (cases h; done)
    | exact repV_beta h hr
theorem dF_all {F : List (Nat × V)} (h : (F.all fun q => dF q.2) = true) (s : Nat) : dF (Frame.get F s) = true := by
  induction F with
  | nil => rfl
  | cons q F ih =>
    rw [List.all_cons, Bool.and_eq_true] at h
    obtain ⟨t, v⟩ := q
    rw [Frame.get_cons]
    split
    · exact h.1
    · exact ih h.2
/-- a slice of bytes that may be written, in memory that was not there before -/
def Lives (w0 w : World) (v : Value) : Prop := (∃ A c, v = .slice A 0 c) ∨ ∃ te, New w0 te w v
/-- what holds behind it -/
def RowQ (n : Nat) (F' : Frame) (w : World) (g : Nat) (te : TypeId) (C : Array Value) (k : Nat) : Exit → Act → World → Prop := fun e a' w' =>
  e = .normal ∧ (∀ s β', RepV w' (oneO g) β' (Frame.get F' s).t (Frame.get F' s).x (a'.tmps.getD s undef)) ∧ a'.tmps.size = n ∧ a'.defers = [] ∧ Kept (oneO g) w w' ∧
  ∃ C' row, w'.heap[g]? = some (.cells C' te (0, 0)) ∧ C'.size = C.size ∧ (∀ q, q ≠ k → C'[q]? = C[q]?) ∧ C'[k]? = some row ∧ Lives w w' row
/-- a row is made, put into a slice of slices, filled: it lies in new memory -/
theorem row_new (hX : (Ownr.plain G (oneO g)).Ok w) (hK : KnOk P G K) (h : Sim w (Ownr.plain G (oneO g)) n σ β a w) {id1 id2 : Nat} {ops1 ops2 : Array Oper} {o5 o6 c0 c1 c2 c3 c4 c5 : Oper} (q1 : ops1.toList.drop 5 = [o5, o6]) (e2 : ops2.toList = [c0, c1, c2, c3, c4, c5])
    {p1 : List Prop} {σ1 : AS} (hs : aSeq K n ops1 (ops1.toList.take 5) σ = some (p1, σ1)) (hp : allP p1)
    {e0 e1 dp sv so si sb d0 d1 d2 d3 d4 d5 j k : Nat} {kI : Int} {ts xt te tu : TypeId} {L cap : Nat} {C : Array Value} {ys zs : List UInt8}
    (h7 : o5.op = .indexAddr xt (.tmp e0) (.tmp e1)) (h7d : o5.dst = some dp) (h7g : o5.guard = none)
    (h6 : o6.op = .store ts (.tmp dp) (.tmp sv)) (h6d : o6.dst = none) (h6g : o6.guard = none)
    (h0 : c0.op = .move (.tmp so)) (h0d : c0.dst = some d0) (h0g : c0.guard = none)
    (h1 : c1.op = .move (.tmp si)) (h1d : c1.dst = some d1) (h1g : c1.guard = none)
    (h2 : c2.op = .indexAddr xt (.tmp d0) (.tmp d1)) (h2d : c2.dst = some d2) (h2g : c2.guard = none)
    (h3 : c3.op = .load ts (.tmp d2)) (h3d : c3.dst = some d3) (h3g : c3.guard = none)
    (h4 : c4.op = .move (.tmp sb)) (h4d : c4.dst = some d4) (h4g : c4.guard = none)
    (h5 : c5.op = .call ⟨.builtin .copy, #[.tmp d3, .tmp d4], #[ts, ts]⟩) (h5d : c5.dst = some d5) (h5g : c5.guard = none)
    (hts : tis K.T ts (.slice (.int .u8)) = true) (hxt : tis K.T xt (.slice (.slice (.int .u8))) = true)
    (he0 : Frame.get σ1.F e0 = ⟨.lit, .slice (some ⟨g, 0, none⟩) L cap⟩) (he1 : Frame.get σ1.F e1 = ⟨.int .i64, kI⟩) (hsv : Frame.get σ1.F sv = ⟨.obuf (.int .u8), j⟩)
    (hso : Frame.get σ1.F so = ⟨.lit, .slice (some ⟨g, 0, none⟩) L cap⟩) (hsi : Frame.get σ1.F si = ⟨.int .i64, kI⟩) (hsb : Frame.get σ1.F sb = ⟨.slice (.int .u8), ys⟩)
    (hj : Owns.get σ1.E j = some (.buf tu (.int .u8) zs)) (hlen : zs.length = ys.length)
    (hg : w.heap[g]? = some (.cells C te (0, 0))) (hC : C.size = cap) (hL : L ≤ cap) (hk0 : 0 ≤ kI) (hkk : kI.toNat = k) (hk : k < L)
    (hnp : dp < n) (hn0 : d0 < n) (hn1 : d1 < n) (hn2 : d2 < n) (hn3 : d3 < n) (hn4 : d4 < n) (hn5 : d5 < n)
    (nf : dp ≠ sv ∧ dp ≠ so ∧ dp ≠ si ∧ dp ≠ sb) (ne1 : d0 ≠ si) (ne2 : d0 ≠ d1) (ne3 : d0 ≠ sb) (ne4 : d1 ≠ sb) (ne5 : d2 ≠ sb) (ne6 : d3 ≠ sb) (ne7 : d3 ≠ d4)
    (F' : List (Nat × V)) (hF : Sub σ1.F F') (hFd : (F'.all fun q => !hasN [dp, d0, d1, d2, d3, d4, d5] q.1) = true) (hb : bndB 0 F' = true) (hnh : (F'.all fun q => dF q.2) = true)
    (hd1 : noDefer (ops1.toList.take 5) = true := by rfl) (hd2 : noDefer [o5, o6] = true := by rfl) (hd3 : noDefer ops2.toList = true := by rfl) :
    (Code.seq (.region id1 ops1 false) (.region id2 ops2 false)).wpIn (wideR none) 0 P (RowQ n F' w g te C k) a w := by
  have e1' : ops1.toList = ops1.toList.take 5 ++ [o5, o6] := by rw [← q1, List.take_append_drop]
  have hd3 : noDefer [c0, c1, c2, c3, c4, c5] = true := by rw [← e2]; exact hd3
  refine wpIn_seq (Go.wpIn_mono (Q := fun e a2 w2 => e = .normal ∧ (Code.region id2 ops2 false).wpIn (wideR none) 0 P (RowQ n F' w g te C k) a2 w2) (wpIn_region_list ?_) fun e a w ⟨he, hm⟩ => by subst he; exact hm)
  rw [e1']
  refine wpListIn_append _ _ (wpListIn_of_wpList (ρ := none) not_lets _ hd1 (aSeq_wp hK hX _ h hs hp fun β1 a1 w1 s1 => ⟨rfl, ?_⟩))
  refine wpListIn_of_wpList (ρ := none) not_lets _ hd2 ?_
  obtain ⟨te', hut, _, hte⟩ := hK.t.is hxt
  have hlay : Lay P (.slice (.int .u8)) (.inl ts) := hK.t.is hts
  obtain ⟨tb, hub, _, htb⟩ := hK.t.is hts
  have hgl : g < w.heap.size := (Array.getElem?_eq_some_iff.1 hg).1
  have hb1 : Below w.heap.size w w1 := s1.bel.below (Ownr.plain_noR _ _)
  have hg1 : w1.heap[g]? = some (.cells C te (0, 0)) := (hb1.block g hgl).trans hg
  have get : ∀ (s : Nat) (v : V), Frame.get σ1.F s = v → RepV w1 (OSet (Ownr.plain G (oneO g)) σ1.E β1) β1 v.t v.x (a1.tmps.getD s undef) := fun s v e => by rw [← e]; exact s1.fr s
  have x0 : a1.tmps.getD e0 undef = .slice (some ⟨g, 0, none⟩) L cap := get e0 _ he0
  have x1 : a1.tmps.getD e1 undef = .int .i64 kI := RepV.int (get e1 _ he1)
  have xv : a1.tmps.getD sv undef = β1 j := get sv _ hsv
  have xo : a1.tmps.getD so undef = .slice (some ⟨g, 0, none⟩) L cap := get so _ hso
  have xi : a1.tmps.getD si undef = .int .i64 kI := RepV.int (get si _ hsi)
  have hy := get sb _ hsb
  obtain ⟨uy, huy⟩ : ∃ u, a1.tmps.getD sb undef = u := ⟨_, rfl⟩
  rw [huy] at hy
  obtain ⟨csz, hLz, hrowz, hposz⟩ := s1.own j _ hj
  have hnew : ∀ gz, blockOf (β1 j) = some gz → w.heap.size ≤ gz := fun gz hgz => by
    rcases s1.new j _ gz hj hgz with h9 | h9
    · exact h9
    · exact (Ownr.plain_noR _ _ _ h9).elim
  have hvs : ∃ A m c, β1 j = .slice A m c := by
    rcases hrowz.2 with ⟨e, _⟩ | ⟨g, c, _, e, _⟩
    · exact ⟨_, _, _, e⟩
    · exact ⟨_, _, _, e⟩
  have hvc : (β1 j).cells = #[β1 j] := by obtain ⟨A, m, c, e⟩ := hvs; rw [e]; rfl
  have hv1 : (β1 j).oneCell' = true := by obtain ⟨A, m, c, e⟩ := hvs; rw [e]; rfl
  have hix : ∀ wx, (Instr.indexAt xt (.slice (some ⟨g, 0, none⟩) L cap) (.int .i64 kI)).run P wx = .ok (.pointer (some ⟨g, k, none⟩)) wx := fun wx => by
    have := indexAt_slice (P := P) (w := wx) (k := .i64) (A := ⟨g, 0, none⟩) (n := L) (c := cap) hut hte.sizeOf hk0 (show kI < (L : Nat) by omega)
    rw [Addr.add_mid, hkk, Nat.zero_add, show k * (Ty.slice (.int .u8)).size = k from Nat.mul_one _] at this
    exact this
  obtain ⟨D, hD⟩ : ∃ D, D = (C.toList.take k ++ [β1 j] ++ C.toList.drop (k + 1)).toArray := ⟨_, rfl⟩
  have hst : (Instr.storeAt ts (.pointer (some ⟨g, k, none⟩)) (β1 j)).run P w1 = .ok () (w1.setRow g D) := by rw [hD]; exact storeOne hlay rfl hg1 (by omega) hvc hv1
  have hg2 : (w1.setRow g D).heap[g]? = some (.cells D te (0, 0)) := setRow_heap w1 g C D _ _ hg1
  have hDk : D[k]? = some (β1 j) := by
    rw [hD, List.getElem?_toArray, List.append_assoc, List.getElem?_append_right (by rw [List.length_take]; omega), List.length_take, Array.length_toList, Nat.min_eq_left (by omega), Nat.sub_self]
    rfl
  have hDs : D.size = C.size := by
    rw [hD]
    simp only [List.size_toArray, List.length_append, List.length_take, List.length_drop, Array.length_toList, List.length_singleton]
    omega
  have hDm : ∀ q, q ≠ k → D[q]? = C[q]? := by
    intro q hq
    have hkl : k < C.toList.length := by rw [Array.length_toList]; omega
    rw [hD, List.getElem?_toArray, ← Array.getElem?_toList, List.append_assoc]
    rcases Nat.lt_or_ge q k with h8 | h8
    · rw [List.getElem?_append_left (by rw [List.length_take]; omega), List.getElem?_take, if_pos h8]
    · rw [List.getElem?_append_right (by rw [List.length_take]; omega), List.length_take, Nat.min_eq_left (by omega), List.getElem?_append_right (by simp; omega), List.getElem?_drop]
      congr 1
      simp
      omega
  have hcell : (w1.setRow g D).cell? ⟨g, k, none⟩ = some (β1 j) := by
    unfold World.cell?
    rw [hg2]
    simp only [Option.isSome_none, Bool.false_eq_true, if_false]
    exact hDk
  -- the copy
  obtain ⟨w3, hcopy, hk3, hg3, hrow⟩ : ∃ w3, (∀ ty, (Builtin.copy_ #[ts, ts] ty #[β1 j, uy]).run P (w1.setRow g D) = .ok (goInt ys.length) w3) ∧ Kept (fun h => h = g ∨ blockOf (β1 j) = some h) w1 w3 ∧ w3.heap[g]? = some (.cells D te (0, 0)) ∧ Lives w w3 (β1 j) := by
    by_cases hys : ys = []
    · subst hys
      have hz0 : zs = [] := List.eq_nil_of_length_eq_zero hlen
      subst hz0
      have eA : ∃ A c, β1 j = .slice A 0 c ∧ c ≤ maxLen := by
        rcases hrowz.2 with ⟨e, _⟩ | ⟨g, c, _, e, _, _, _, hm, _⟩
        · exact ⟨_, _, e, Nat.zero_le _⟩
        · exact ⟨_, _, e, hm⟩
      have eB : ∃ A c, uy = .slice A 0 c := by
        rcases RepV.slice hy with ⟨_, A, c, e, _⟩ | ⟨_, _, _, _, _, hx, _⟩
        · exact ⟨A, c, e⟩
        · exact absurd rfl hx
      obtain ⟨A, c, eA, hcm⟩ := eA
      obtain ⟨B, d, eB⟩ := eB
      refine ⟨w1.setRow g D, fun ty => by rw [eA, eB]; exact copy_none hub htb.sizeOf, ⟨rfl, rfl, rfl, by simp, fun q _ hr => setRow_other w1 g q D fun e => hr (.inl e)⟩, hg2, .inl ⟨A, c, eA⟩⟩
    · rcases hrowz.2 with ⟨_, hz⟩ | ⟨gz, capz, curz, hβz, _, hgz, hcapz, hmz, hcsz, htakez⟩
      · exact absurd (List.eq_nil_of_length_eq_zero (by omega)) hys
      have hbz : blockOf (β1 j) = some gz := by rw [hβz]; rfl
      have hgzn := hnew gz hbz
      have hne : gz ≠ g := by omega
      rcases RepV.slice hy with ⟨e, _⟩ | ⟨g2, off2, c2, vs, euy, hx, hc2, hm2, hg2lt, hnO, hLy, hcells⟩
      · exact absurd e hys
      subst euy
      have hvs2 := repL_bytes hLy
      have hvl : vs.length = ys.length := by rw [hvs2, List.length_map]
      have hg2n : g2 ≠ g := fun e => hnO (.inl e)
      have hcz : curz.size = capz := by rw [hcsz]; exact Nat.mul_one _
      have hrun := fun ty => run_copy_row (P := P) (w1.setRow g D) ts ts ty tb gz 0 zs.length capz ⟨g2, off2, none⟩ ys.length c2 curz tu vs hub (by rw [htb.cellSize]; rfl) (by rw [setRow_other w1 g gz D hne]; exact hgz)
        (by rw [hvl, hlen]; exact (Nat.min_self _).symm)
        (fun q u hu => by
          rw [Addr.add_mid]
          have := hcells q u hu
          unfold World.cell? at *
          rw [setRow_other w1 g g2 D hg2n]
          exact this)
        (by rw [Nat.zero_add, hvl, ← hlen, hcz]; exact hcapz) (fun u hu => by rw [hvs2] at hu; obtain ⟨b, _, rfl⟩ := List.mem_map.1 hu; rfl)
      obtain ⟨Y, hY⟩ : ∃ Y : Array Value, Y = (curz.toList.take 0 ++ vs ++ curz.toList.drop (0 + vs.length)).toArray := ⟨_, rfl⟩
      rw [← hY] at hrun
      have hgzH : ((w1.setRow g D).setRow gz Y).heap[gz]? = some (.cells Y tu (0, 0)) := setRow_heap _ gz curz Y _ _ (by rw [setRow_other w1 g gz D hne]; exact hgz)
      refine ⟨(w1.setRow g D).setRow gz Y, fun ty => by
        have e : goInt ((ys.length : Nat) : Int) = goInt ((vs.length : Nat) : Int) := by rw [hvl]
        rw [hβz, e]
        exact hrun ty, ⟨rfl, rfl, rfl, by simp, fun q _ hr => ?_⟩, ?_, .inr ⟨tu, ys, vs, hLy.mono fun x _ c hc => repC_flat (.int .u8) rfl x c hc, ⟨by show vs.length = ys.length * 1; omega, .inr ⟨gz, capz, Y, by rw [← hlen]; exact hβz, hgzn, hgzH, by rw [← hlen]; exact hcapz, hmz, ?_, ?_⟩⟩, Nat.one_pos⟩⟩
      · rw [setRow_other _ gz q Y (fun e => hr (.inr (by rw [hbz, e]))), setRow_other w1 g q D fun e => hr (.inl e)]
      · rw [setRow_other _ gz g Y (Ne.symm hne)]
        exact hg2
      · rw [hY]
        show (curz.toList.take 0 ++ vs ++ curz.toList.drop (0 + vs.length)).toArray.size = capz * 1
        simp only [List.size_toArray, List.length_append, List.length_take, List.length_drop, Array.length_toList]
        omega
      · rw [hY]
        show (curz.toList.take 0 ++ vs ++ curz.toList.drop (0 + vs.length)).take (ys.length * 1) = vs
        rw [List.take_zero, List.nil_append, Nat.mul_one, ← hvl, List.take_left]
  have hsz := s1.sz
  obtain ⟨b, hbb⟩ : ∃ b, a1.put (some dp) (.pointer (some ⟨g, k, none⟩)) = b := ⟨_, rfl⟩
  have zb : b.tmps.size = n := by rw [← hbb, Act.put_size]; exact hsz
  have gb : ∀ s, b.tmps.getD s undef = if dp = s then .pointer (some ⟨g, k, none⟩) else a1.tmps.getD s undef := fun s => by rw [← hbb]; exact Act.put_get (by rw [hsz]; exact hnp)
  obtain ⟨nv, no, ni, nb⟩ := nf
  have ex5 : (execOp a1.eval o5).run P w1 = .ok (.value (.pointer (some ⟨g, k, none⟩))) w1 := by
    unfold execOp
    simp only [h7]
    show Sem.run P (do let u ← Instr.indexAt xt (a1.tmps.getD e0 undef) (a1.tmps.getD e1 undef); _) w1 = _
    rw [x0, x1]
    exact run_v (hix w1)
  refine wpList_one (u := .pointer (some ⟨g, k, none⟩)) (w' := w1) h7g ex5 ?_
  rw [h7d, hbb]
  have ex6 : (execOp b.eval o6).run P w1 = .ok .skip (w1.setRow g D) := by
    unfold execOp
    simp only [h6]
    show Sem.run P (do Instr.storeAt ts (b.tmps.getD dp undef) (b.tmps.getD sv undef); _) w1 = _
    rw [gb, gb, if_pos rfl, if_neg nv, xv]
    simp [hst]
  simp only [wpList, wpOp, Region.wanted, h6g, if_true]
  refine .inl ?_
  unfold Oper.wp
  rw [ex6]
  show True ∧ (Code.region id2 ops2 false).wpIn (wideR none) 0 P (RowQ n F' w g te C k) (b.put o6.dst undef) (w1.setRow g D)
  rw [h6d]
  refine ⟨trivial, wpIn_region_list ?_⟩
  rw [e2]
  rw [show b.put none undef = b from rfl]
  refine wpListIn_of_wpList (ρ := none) (fun ⟨_, _, h9⟩ => (by cases h9.1)) _ hd3 ?_
  obtain ⟨b0, hb0⟩ : ∃ x, b.put (some d0) (.slice (some ⟨g, 0, none⟩) L cap) = x := ⟨_, rfl⟩
  obtain ⟨b1, hb1'⟩ : ∃ x, b0.put (some d1) (.int .i64 kI) = x := ⟨_, rfl⟩
  obtain ⟨b2, hb2⟩ : ∃ x, b1.put (some d2) (.pointer (some ⟨g, k, none⟩)) = x := ⟨_, rfl⟩
  obtain ⟨b3, hb3⟩ : ∃ x, b2.put (some d3) (β1 j) = x := ⟨_, rfl⟩
  obtain ⟨b4, hb4⟩ : ∃ x, b3.put (some d4) uy = x := ⟨_, rfl⟩
  obtain ⟨b5, hb5⟩ : ∃ x, b4.put (some d5) (goInt ys.length) = x := ⟨_, rfl⟩
  have z0 : b0.tmps.size = n := by rw [← hb0, Act.put_size]; exact zb
  have z1 : b1.tmps.size = n := by rw [← hb1', Act.put_size]; exact z0
  have z2 : b2.tmps.size = n := by rw [← hb2, Act.put_size]; exact z1
  have z3 : b3.tmps.size = n := by rw [← hb3, Act.put_size]; exact z2
  have z4 : b4.tmps.size = n := by rw [← hb4, Act.put_size]; exact z3
  have g1 : ∀ s, b0.tmps.getD s undef = if d0 = s then .slice (some ⟨g, 0, none⟩) L cap else b.tmps.getD s undef := fun s => by rw [← hb0]; exact Act.put_get (by rw [zb]; exact hn0)
  have g2 : ∀ s, b1.tmps.getD s undef = if d1 = s then .int .i64 kI else b0.tmps.getD s undef := fun s => by rw [← hb1']; exact Act.put_get (by rw [z0]; exact hn1)
  have g3 : ∀ s, b2.tmps.getD s undef = if d2 = s then .pointer (some ⟨g, k, none⟩) else b1.tmps.getD s undef := fun s => by rw [← hb2]; exact Act.put_get (by rw [z1]; exact hn2)
  have g4 : ∀ s, b3.tmps.getD s undef = if d3 = s then β1 j else b2.tmps.getD s undef := fun s => by rw [← hb3]; exact Act.put_get (by rw [z2]; exact hn3)
  have g5 : ∀ s, b4.tmps.getD s undef = if d4 = s then uy else b3.tmps.getD s undef := fun s => by rw [← hb4]; exact Act.put_get (by rw [z3]; exact hn4)
  have g6 : ∀ s, b5.tmps.getD s undef = if d5 = s then goInt ys.length else b4.tmps.getD s undef := fun s => by rw [← hb5]; exact Act.put_get (by rw [z4]; exact hn5)
  have y0 : b.eval (.tmp so) = .slice (some ⟨g, 0, none⟩) L cap := by show b.tmps.getD so undef = _; rw [gb, if_neg no, xo]
  have y1 : b0.eval (.tmp si) = .int .i64 kI := by show b0.tmps.getD si undef = _; rw [g1, if_neg ne1, gb, if_neg ni, xi]
  have y2 : b1.eval (.tmp d0) = .slice (some ⟨g, 0, none⟩) L cap := by show b1.tmps.getD d0 undef = _; rw [g2, if_neg (Ne.symm ne2), g1, if_pos rfl]
  have y3 : b1.eval (.tmp d1) = .int .i64 kI := by show b1.tmps.getD d1 undef = _; rw [g2, if_pos rfl]
  have y4 : b2.eval (.tmp d2) = .pointer (some ⟨g, k, none⟩) := by show b2.tmps.getD d2 undef = _; rw [g3, if_pos rfl]
  have y5 : b3.eval (.tmp sb) = uy := by show b3.tmps.getD sb undef = _; rw [g4, if_neg ne6, g3, if_neg ne5, g2, if_neg ne4, g1, if_neg ne3, gb, if_neg nb, huy]
  have y6 : b4.eval (.tmp d3) = β1 j := by show b4.tmps.getD d3 undef = _; rw [g5, if_neg (Ne.symm ne7), g4, if_pos rfl]
  have y7 : b4.eval (.tmp d4) = uy := by show b4.tmps.getD d4 undef = _; rw [g5, if_pos rfl]
  have hmv : ∀ (wx : World) (ev : Operand → Value) (o : Oper) (x : Operand) (u : Value), o.op = .move x → ev x = u → (execOp ev o).run P wx = .ok (.value u) wx := fun wx ev o x u h hx => by
    unfold execOp; simp only [h]; rw [hx]; rfl
  refine wpList_one (u := .slice (some ⟨g, 0, none⟩) L cap) (w' := w1.setRow g D) h0g (hmv _ _ _ _ _ h0 y0) ?_
  rw [h0d, hb0]
  refine wpList_one (u := .int .i64 kI) (w' := w1.setRow g D) h1g (hmv _ _ _ _ _ h1 y1) ?_
  rw [h1d, hb1']
  refine wpList_one (u := .pointer (some ⟨g, k, none⟩)) (w' := w1.setRow g D) h2g (by
    unfold execOp; simp only [h2]
    rw [y2, y3]
    exact run_v (hix _)) ?_
  rw [h2d, hb2]
  refine wpList_one (u := β1 j) (w' := w1.setRow g D) h3g (by
    unfold execOp; simp only [h3]
    rw [y4]
    exact run_v (loadOne hlay rfl hcell)) ?_
  rw [h3d, hb3]
  refine wpList_one (u := uy) (w' := w1.setRow g D) h4g (hmv _ _ _ _ _ h4 y5) ?_
  rw [h4d, hb4]
  refine wpList_one (u := goInt ys.length) (w' := w3) h5g (copy_exec h5 y6 y7 (hcopy c5.type)) ?_
  rw [h5d, hb5]
  have hkw : Kept (oneO g) w w3 := ⟨hk3.os.trans hb1.os, hk3.tape.trans hb1.tape, hk3.output.trans hb1.output, Nat.le_trans hb1.size hk3.size, fun q hq hr => (hk3.block q (Nat.lt_of_lt_of_le hq hb1.size) fun h9 => h9.elim hr fun h8 => by have := hnew q h8; omega).trans (hb1.block q hq)⟩
  refine ⟨rfl, fun s β' => ?_, by rw [← hb5, Act.put_size]; exact z4, ?_, hkw, D, β1 j, hg3, hDs, hDm, hDk, hrow⟩
  · refine dF_rep (β := β1) (dF_all hnh s) ?_
    by_cases hju : Frame.get F' s = ⟨.junk, ()⟩
    · rw [hju]; trivial
    have hns : hasN [dp, d0, d1, d2, d3, d4, d5] s = false := by
      have key : ∀ (F : List (Nat × V)), (F.all fun q => !hasN [dp, d0, d1, d2, d3, d4, d5] q.1) = true → Frame.get F s ≠ ⟨.junk, ()⟩ → hasN [dp, d0, d1, d2, d3, d4, d5] s = false := by
        intro F
        induction F with
        | nil => intro _ h9; exact absurd rfl h9
        | cons q F ih =>
          intro h8 h9
          rw [List.all_cons, Bool.and_eq_true] at h8
          obtain ⟨t, v⟩ := q
          by_cases e : t = s
          · subst e; simpa using h8.1
          · rw [Frame.get_cons, if_neg e] at h9
            exact ih h8.2 h9
      exact key F' hFd hju
    have hmem : ∀ d, d ∈ [dp, d0, d1, d2, d3, d4, d5] → d ≠ s := fun d hd e => by
      subst e
      rw [hasN_iff.2 hd] at hns
      cases hns
    have et : b5.tmps.getD s undef = a1.tmps.getD s undef := by
      rw [g6, if_neg (hmem d5 (by simp)), g5, if_neg (hmem d4 (by simp)), g4, if_neg (hmem d3 (by simp)), g3, if_neg (hmem d2 (by simp)), g2, if_neg (hmem d1 (by simp)), g1, if_neg (hmem d0 (by simp)), gb, if_neg (hmem dp (by simp))]
    rw [et]
    have h9 := (s1.weaken hF.get).fr s
    refine RepV.keep ⟨hk3.size, fun q hq hr => hk3.block q hq fun h8 => hr ?_, fun q _ h8 => .inl h8⟩ _ _ _ h9
    rcases h8 with h8 | h8
    · exact .inl h8
    · exact .inr ⟨j, _, hj, h8⟩
  · have e : ∀ (x : Act) d v, (x.put d v).defers = x.defers := fun x d v => Act.put_defers ..
    rw [← hb5, e, ← hb4, e, ← hb3, e, ← hb2, e, ← hb1', e, ← hb0, e, ← hbb, e]
    exact s1.df
end
end Go.Proofs.YthhphphdbgkdgaaDoor
