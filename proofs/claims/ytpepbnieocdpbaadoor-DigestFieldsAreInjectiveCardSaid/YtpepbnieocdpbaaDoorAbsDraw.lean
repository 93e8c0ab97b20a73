/-
  A region that draws its order, on a plain state: its head in whatever order, its tail forced. No program is read here.
-/
import Derived.Test.YtpepbnieocdpbaaDoorAbsReg
namespace Go.Proofs.YtpepbnieocdpbaaDoor
open Go Go.RowKit
set_option linter.unusedSimpArgs false
set_option linter.unusedVariables false

section
variable {P : Program} {md : Region.Mode} {ops : Array Oper} {R : Exit → Act → World → Prop}

theorem ready_ne {m : Nat} {listed : Array Bool} (hb : backB ops = true) (hm : m ≤ ops.size) (inv : HeadInv .any ops m listed) {i : Nat} (hi : i < m) (hun : listed.getD i false = false) : Region.ready .any ops listed ≠ [] := by
  have key : ∀ k, ∀ i, i ≤ k → i < m → listed.getD i false = false → Region.ready .any ops listed ≠ [] := by
    intro k
    induction k with
    | zero =>
      intro i hik him hl
      have : i = 0 := by omega
      subst this
      intro h0
      have hlt : 0 < ops.size := by omega
      have hmem : 0 ∈ Region.ready .any ops listed := mem_ready.2 ⟨getD_in (by rw [inv.size]; exact hlt) hl, ops[0], by simp [hlt], fun e he hbd => by
        have h1 := List.all_eq_true.1 hb 0 (List.mem_range.2 hlt)
        simp only [Array.getElem?_eq_getElem hlt] at h1
        have h2 := (Array.all_eq_true_iff_forall_mem.1 h1) e he
        simp [hbd] at h2⟩
      rw [h0] at hmem
      cases hmem
    | succ k ih =>
      intro i hik him hl
      by_cases hex : ∃ j, j < i ∧ listed.getD j false = false
      · obtain ⟨j, hj, hlj⟩ := hex
        exact ih j (by omega) (by omega) hlj
      · intro h0
        have hlt : i < ops.size := by omega
        have hmem : i ∈ Region.ready .any ops listed := mem_ready.2 ⟨getD_in (by rw [inv.size]; exact hlt) hl, ops[i], by simp [hlt], fun e he hbd => by
          have h1 := List.all_eq_true.1 hb i (List.mem_range.2 hlt)
          simp only [Array.getElem?_eq_getElem hlt] at h1
          have h2 := (Array.all_eq_true_iff_forall_mem.1 h1) e he
          simp only [hbd, Bool.not_true, Bool.or_false] at h2
          have h3 : e.on < i := by simpa using h2
          cases h4 : listed.getD e.on false with
          | true => rfl
          | false => exact absurd ⟨e.on, h3, h4⟩ hex⟩
        rw [h0] at hmem
        cases hmem
  exact key i i (Nat.le_refl _) hi hun

/-- unlisted ones of the first m -/
def left (listed : Array Bool) (m : Nat) : Nat := ((List.range m).filter fun i => !listed.getD i false).length
theorem left_set {listed : Array Bool} {m i : Nat} (hi : i < m) (hs : i < listed.size) (hun : listed.getD i false = false) : left (listed.setIfInBounds i true) m + 1 = left listed m := by
  unfold left
  have h1 : (List.range m).filter (fun j => !listed.getD j false) = (List.range m).filter (fun j => !(listed.setIfInBounds i true).getD j false || decide (j = i)) := by
    apply List.filter_congr
    intro j hj
    by_cases hji : j = i
    · subst hji; simp [hun]
    · rw [getD_set_ne false (Ne.symm hji)]; simp [hji]
  rw [h1]
  have h2 : ∀ (l : List Nat), l.Nodup → i ∈ l → (l.filter fun j => !(listed.setIfInBounds i true).getD j false || decide (j = i)).length = (l.filter fun j => !(listed.setIfInBounds i true).getD j false).length + 1 := by
    have hii : (listed.setIfInBounds i true).getD i false = true := by simp [Array.getD, hs]
    intro l
    induction l with
    | nil => intro _ h; cases h
    | cons a l ih =>
      intro hnd hmem
      rw [List.nodup_cons] at hnd
      by_cases ha : a = i
      · subst ha
        have h3 : l.filter (fun j => !(listed.setIfInBounds a true).getD j false || decide (j = a)) = l.filter (fun j => !(listed.setIfInBounds a true).getD j false) := by
          apply List.filter_congr
          intro j hj
          have : j ≠ a := fun e => hnd.1 (e ▸ hj)
          simp [this]
        rw [List.filter_cons, List.filter_cons, if_pos (by simp), if_neg (by rw [hii]; simp), h3, List.length_cons]
      · have hm' : i ∈ l := by rcases List.mem_cons.1 hmem with h | h; exact absurd h.symm ha; exact h
        have := ih hnd.2 hm'
        simp only [List.filter_cons, ha, decide_false, Bool.or_false]
        split
        · simp only [List.length_cons, this]
        · exact this
  exact (h2 _ List.nodup_range (List.mem_range.2 hi)).symm
theorem left_zero {listed : Array Bool} {m : Nat} (h : left listed m = 0) : ∀ i, i < m → listed.getD i false = true := by
  intro i hi
  unfold left at h
  have h1 := List.eq_nil_of_length_eq_zero h
  have h2 := List.filter_eq_nil_iff.1 h1 i (List.mem_range.2 hi)
  simpa using h2
theorem left_pos {listed : Array Bool} {m k : Nat} (h : left listed m = k + 1) : ∃ i, i < m ∧ listed.getD i false = false := by
  unfold left at h
  cases hl : (List.range m).filter (fun i => !listed.getD i false) with
  | nil => rw [hl] at h; cases h
  | cons a l =>
    have : a ∈ (List.range m).filter (fun i => !listed.getD i false) := by rw [hl]; simp
    rw [List.mem_filter, List.mem_range] at this
    exact ⟨a, this.1, by simpa using this.2⟩
theorem wpAny_head {m : Nat} (hm : m ≤ ops.size) (hb : backB ops = true) (htl : m = ops.size ∨ (Region.sinkB .any ops m = true ∧ Region.chainB .any ops m = true)) (I : Array Bool → Act → World → Prop) {g : Nat}
    (hstep : ∀ listed a w, I listed a w → ∀ i, i < m → i ∈ Region.ready .any ops listed → wpOp P ops R i (I (listed.setIfInBounds i true)) a w)
    (htail : ∀ listed a w, HeadInv .any ops m listed → (∀ i, i < m → listed.getD i false = true) → I listed a w → wpAny P .any ops R g listed a w) :
    ∀ (f : Nat) (listed : Array Bool) (a : Act) (w : World), left listed m = f → HeadInv .any ops m listed → I listed a w → wpAny P .any ops R (f + g) listed a w := by
  intro f
  induction f with
  | zero =>
    intro listed a w hl inv hI
    rw [Nat.zero_add]
    exact htail listed a w inv (left_zero hl) hI
  | succ f ih =>
    intro listed a w hl inv hI
    obtain ⟨i0, hi0, hun0⟩ := left_pos hl
    have hne := ready_ne hb hm inv hi0 hun0
    rw [show f + 1 + g = (f + g) + 1 by omega]
    refine ⟨fun h0 => absurd h0 hne, fun i hi => ?_⟩
    have hun := (mem_ready.1 hi).1
    have hisz : i < ops.size := by
      obtain ⟨_, o, ho, _⟩ := mem_ready.1 hi
      exact (Array.getElem?_eq_some_iff.1 ho).1
    have him : i < m := by
      rcases Nat.lt_or_ge i m with h | h
      · exact h
      · rcases htl with h1 | ⟨h1, h2⟩
        · omega
        · exact absurd hi (tail_waits h1 h2 (by omega) inv _ i0 rfl hi0 (getD_in (by rw [inv.size]; omega) hun0) i h)
    refine wpOp_mono (fun a' w' hI' => ih _ a' w' ?_ (inv.set hi him) hI') (hstep listed a w hI i him hi)
    have := left_set him (by rw [inv.size]; exact hisz) (getD_both hun)
    omega
end

/-! ### frames of the head -/
def putsF : Frame → List Oper → List V → Frame
  | F, o :: l, v :: vs => putsF ((o.dst.getD 0, v) :: F) l vs
  | F, _, _ => F
theorem putsF_other : ∀ (l : List Oper) (vs : List V) (F : Frame) (t : Nat), (∀ o ∈ l, o.dst.isSome = true) → (∀ o ∈ l, o.dst ≠ some t) → Frame.get (putsF F l vs) t = Frame.get F t
  | [], _, _, _, _, _ => by simp [putsF]
  | o :: l, [], _, _, _, _ => by simp [putsF]
  | o :: l, v :: vs, F, t, hs, h => by
    simp only [putsF]
    rw [putsF_other l vs _ t (fun o ho => hs o (by simp [ho])) (fun o ho => h o (by simp [ho])), Frame.get_cons, if_neg]
    intro e
    have h1 := hs o (by simp)
    have h2 := h o (by simp)
    cases hd : o.dst with
    | none => rw [hd] at h1; cases h1
    | some d => rw [hd] at h2 e; exact h2 (by rw [← e]; rfl)
theorem putsF_at : ∀ (l : List Oper) (vs : List V) (F : Frame) (t k : Nat) (o : Oper) (v : V), (∀ o ∈ l, o.dst.isSome = true) → l[k]? = some o → o.dst = some t → vs[k]? = some v →
    (∀ k' o', k < k' → l[k']? = some o' → o'.dst ≠ some t) → Frame.get (putsF F l vs) t = v
  | o :: l, v :: vs, F, t, 0, o', v', hs, hk, hd, hv, hno => by
    cases hk; cases hv
    simp only [putsF]
    rw [putsF_other l vs _ t (fun o ho => hs o (by simp [ho])) (fun o'' ho => by
      obtain ⟨k', hk'⟩ := List.mem_iff_getElem?.1 ho
      exact hno (k' + 1) o'' (by omega) (by simpa using hk')), Frame.get_cons, if_pos (by rw [hd]; rfl)]
  | o :: l, v :: vs, F, t, k + 1, o', v', hs, hk, hd, hv, hno => by
    simp only [putsF]
    exact putsF_at l vs _ t k o' v' (fun o ho => hs o (by simp [ho])) (by simpa using hk) hd (by simpa using hv) fun k' o'' hkk hk' => hno (k' + 1) o'' (by omega) (by simpa using hk')
  | [], _, _, _, _, _, _, _, hk, _, _, _ => by simp at hk
  | _ :: _, [], _, _, _, _, _, _, _, _, hv, _ => by simp at hv

section
variable {P : Program} {K : Kn} {w0 : World} {X : Ownr} {n : Nat} {σ : AS} {β : Nat → Value} {a : Act} {w : World} {R : Exit → Act → World → Prop} {ops : Array Oper}

/-- what the head's operations yield -/
theorem aHead_spec : ∀ (l : List Oper) (σ : AS) (r : List Prop × AS), aHead K n ops l σ = some r → ∃ rs : List (List Prop × V), rs.length = l.length ∧ (allP r.1 → ∀ q ∈ rs, allP q.1) ∧ r.2 = { σ with F := putsF σ.F l (rs.map (·.2)) } ∧
    ∀ i o, l[i]? = some o → ∃ d q, o.dst = some d ∧ d < n ∧ rs[i]? = some q ∧ gOp K n ops σ.E (putsF σ.F (l.take i) ((rs.map (·.2)).take i)) o = some q
  | [], σ, r, h => by
    cases h
    exact ⟨[], rfl, fun _ q hq => by simp at hq, rfl, fun i o hi => by simp at hi⟩
  | o :: l, σ, r, h => by
    obtain ⟨F, E, nx⟩ := σ
    simp only [aHead] at h
    split at h
    · rename_i d hd
      split at h
      · rename_i hlt
        split at h <;> first | (cases h; done) | skip
        rename_i p t x h1
        obtain ⟨q', h3, rfl⟩ := preS_some h
        obtain ⟨rs, g1, g2, g3, g4⟩ := aHead_spec l _ _ h3
        refine ⟨(p, ⟨t, x⟩) :: rs, by simp [g1], fun hp y hx => ?_, ?_, fun i o' hi => ?_⟩
        · rw [allP_append] at hp
          rcases List.mem_cons.1 hx with rfl | hx
          · exact hp.1
          · exact g2 hp.2 y hx
        · rw [g3]
          simp only [List.map_cons, putsF, hd, Option.getD_some]
        · cases i with
          | zero =>
            cases hi
            exact ⟨d, _, hd, by simpa using hlt, rfl, by simpa [putsF] using h1⟩
          | succ i =>
            obtain ⟨d', q'', e1, e2, e3, e4⟩ := g4 i o' (by simpa using hi)
            refine ⟨d', q'', e1, e2, by simpa using e3, ?_⟩
            simp only [List.map_cons, List.take_succ_cons, putsF, hd, Option.getD_some] at e4 ⊢
            exact e4
      · cases h
    · cases h
/-- a region that draws its order -/
theorem draw_any (hK : KnOk P X.G K) (hX : X.Ok w0) (h : Sim w0 X n σ β a w) {m : Nat} (hB : headB ops m = true) {r1 r2 : List Prop × AS} (h1 : aHead K n ops (ops.toList.take m) σ = some r1) (h2 : aSeq K n ops (ops.toList.drop m) r1.2 = some r2)
    (hp1 : allP r1.1) (hp2 : allP r2.1) (hR : ∀ β' a' w', Sim w0 X n r2.2 β' a' w' → R .normal a' w') : wpAny P .any ops R ops.size (Array.replicate ops.size false) a { w with drawn := w.drawn + 1 } := by
  simp only [headB, Bool.and_eq_true, Nat.ble_eq] at hB
  obtain ⟨⟨⟨⟨hms, hflow⟩, hback⟩, htl0⟩, hseq⟩ := hB
  have htl : m = ops.size ∨ (Region.sinkB .any ops m = true ∧ Region.chainB .any ops m = true) := by
    simp only [Bool.or_eq_true, Bool.and_eq_true, Nat.beq_eq] at htl0
    exact htl0
  obtain ⟨rs, hl, hps, hr1, hspec⟩ := aHead_spec _ _ _ h1
  have hlen : (ops.toList.take m).length = m := by simp; omega
  rw [hlen] at hl
  have hget : ∀ i, i < m → ∃ o d q, ops[i]? = some o ∧ o.dst = some d ∧ d < n ∧ rs[i]? = some q ∧ gOp K n ops σ.E (putsF σ.F (ops.toList.take i) ((rs.map (·.2)).take i)) o = some q := by
    intro i hi
    have hlt : i < ops.size := by omega
    obtain ⟨d, q, e1, e2, e3, e4⟩ := hspec i ops[i] (by rw [List.getElem?_take, if_pos hi]; simp [hlt])
    rw [List.take_take, Nat.min_eq_left (by omega)] at e4
    exact ⟨ops[i], d, q, by simp [hlt], e1, e2, e3, e4⟩
  have hsome : ∀ k, k ≤ m → ∀ o ∈ ops.toList.take k, o.dst.isSome = true := by
    intro k hk o ho
    obtain ⟨i, hi⟩ := List.mem_iff_getElem?.1 ho
    rw [List.getElem?_take] at hi
    split at hi
    · obtain ⟨o', d, q, e1, e2, _⟩ := hget i (by omega)
      have : o' = o := by
        have : ops.toList[i]? = some o' := by simpa using e1
        rw [this] at hi; cases hi; rfl
      rw [← this, e2]; rfl
    · cases hi
  -- the flow
  have hdist : ∀ i j oi oj, i < m → j < m → ops[i]? = some oi → ops[j]? = some oj → i ≠ j → oi.dst ≠ oj.dst := by
    intro i j oi oj hi hj hoi hoj hij
    have h3 := List.all_eq_true.1 hflow j (List.mem_range.2 hj)
    rw [hoj] at h3
    have h4 := List.all_eq_true.1 h3 i (List.mem_range.2 hi)
    rw [hoi] at h4
    simp only [Bool.and_eq_true, Bool.or_eq_true, Nat.beq_eq, Bool.not_eq_true'] at h4
    rcases h4.1 with h5 | h5
    · exact absurd h5 hij
    · intro e; rw [e] at h5; simp at h5
  have hdep : ∀ i j oi oj t, i < m → j < m → ops[i]? = some oi → ops[j]? = some oj → t ∈ seesT ops oj → oi.dst = some t → i < j ∧ ∃ e ∈ oj.after, e.on = i ∧ Region.binds .any e = true := by
    intro i j oi oj t hi hj hoi hoj ht hd
    have h3 := List.all_eq_true.1 hflow j (List.mem_range.2 hj)
    rw [hoj] at h3
    have h4 := List.all_eq_true.1 h3 i (List.mem_range.2 hi)
    rw [hoi] at h4
    simp only [Bool.and_eq_true] at h4
    have h5 := List.all_eq_true.1 h4.2 t ht
    rw [hd] at h5
    simp only [beq_self_eq_true, Bool.not_true, Bool.false_or, Bool.and_eq_true] at h5
    refine ⟨by simpa using h5.1, ?_⟩
    obtain ⟨e, he, h6⟩ := Array.any_eq_true'.1 h5.2
    simp only [Bool.and_eq_true, Nat.beq_eq] at h6
    exact ⟨e, he, h6.1, h6.2⟩
  let W := w.drew
  have hsim : Sim w0 X n σ β a W := ⟨h.sz, h.df, h.bel.then ((Below.refl _ _).drew), fun s => RepV.keep (.of_below ((Below.refl _ _).drew) fun _ _ h => h) _ _ _ (h.fr s), fun i o ho => (h.own i o ho).keep (.of_below ((Below.refl _ _).drew) fun _ _ h => h) fun _ _ => rfl, h.new, h.inj, h.lt, h.fix, h.hb⟩
  let I : Array Bool → Act → World → Prop := fun listed a' w' =>
    a'.tmps.size = n ∧ a'.defers = X.D ∧ Below W.heap.size W w' ∧ (∀ s, (∀ i o, i < m → ops[i]? = some o → o.dst ≠ some s) → a'.tmps.getD s undef = a.tmps.getD s undef) ∧
    (∀ i o d q, i < m → ops[i]? = some o → o.dst = some d → rs[i]? = some q → listed.getD i false = true → RepV w' (OSet X σ.E β) β q.2.t q.2.x (a'.tmps.getD d undef))
  have hsum : ops.size = left (Array.replicate ops.size false) m + (ops.size - m) := by
    have : left (Array.replicate ops.size false) m = m := by
      unfold left
      have : (List.range m).filter (fun i => !(Array.replicate ops.size false).getD i false) = List.range m := by
        rw [List.filter_eq_self]
        intro i _
        rw [getD_replicate_false]
        rfl
      rw [this, List.length_range]
    omega
  have hown : ∀ w', Below W.heap.size W w' → ∀ i o, Owns.get σ.E i = some o → OwnRep w' (OSet X σ.E β) 0 (β i) o := fun w' hb i o ho =>
    (hsim.own i o ho).keep (.of_below hb fun _ _ h => h) fun g hg => hb.block g ((hsim.own i o ho).block_lt hg).2
  have hO : ∀ w', Below W.heap.size W w' → ∀ g, OSet X σ.E β g → g < w'.heap.size := fun w' hb g hg => Nat.lt_of_lt_of_le (hsim.hO hX g hg) hb.size
  suffices hkey : wpAny P .any ops R (left (Array.replicate ops.size false) m + (ops.size - m)) (Array.replicate ops.size false) a W by
    rw [← hsum] at hkey
    exact hkey
  refine wpAny_head hms hback htl I ?_ ?_ _ _ a W rfl ⟨by simp, fun j oj _ hlj => (by rw [getD_replicate_false] at hlj; cases hlj), fun t _ ht => getD_in (by simpa using ht) (getD_replicate_false _ _)⟩ ⟨h.sz, h.df, Below.refl _ _, fun _ _ => rfl, fun i o d q _ _ _ _ hli => by rw [getD_replicate_false] at hli; cases hli⟩
  · -- an operation of the head comes up
    rintro listed a' w' ⟨i1, i2, i3, i4, i5⟩ i him hir
    obtain ⟨hun, o', ho', hdone⟩ := mem_ready.1 hir
    obtain ⟨o, d, q, ho, hd, hdn, hq, hg⟩ := hget i him
    have : o' = o := by rw [ho] at ho'; cases ho'; rfl
    subst this
    unfold wpOp
    rw [ho]
    simp only
    have hqp : allP q.1 := hps hp1 q (List.mem_of_getElem? hq)
    refine gOp_wp hK (hX.2.2 w' (hsim.bel.then i3)) (hO w' i3) (hown w' i3) hg hqp i1 (fun t ht => ?_) fun u w2 hb2 hr2 => ?_
    · by_cases hex : ∃ k ok, k < m ∧ ops[k]? = some ok ∧ ok.dst = some t
      · obtain ⟨k, ok, hkm, hok, hkd⟩ := hex
        obtain ⟨hki, e, he, heon, heb⟩ := hdep k i ok o' t hkm him hok ho ht hkd
        have hlk := hdone e he heb
        rw [heon] at hlk
        obtain ⟨ok', dk, qk, g1, g2, g3, g4, g5⟩ := hget k hkm
        have : ok' = ok := by rw [hok] at g1; cases g1; rfl
        subst this
        have hv := putsF_at (ops.toList.take i) ((rs.map (·.2)).take i) σ.F t k ok' qk.2 (hsome i (by omega)) (by rw [List.getElem?_take, if_pos hki]; simpa using hok) hkd
          (by rw [List.getElem?_take, if_pos hki, List.getElem?_map, g4]; rfl) (fun k' o'' hkk hk' => by
            rw [List.getElem?_take] at hk'
            split at hk'
            · have := hdist k' k o'' ok' (by omega) hkm (by simpa using hk') hok (by omega)
              rw [hkd] at this; exact this
            · cases hk')
        rw [hv]
        exact i5 k ok' t qk hkm hok hkd g4 hlk
      · have hno : ∀ o ∈ ops.toList.take i, o.dst ≠ some t := by
          intro o2 ho2 hd2
          obtain ⟨k, hk⟩ := List.mem_iff_getElem?.1 ho2
          rw [List.getElem?_take] at hk
          split at hk
          · exact hex ⟨k, o2, by omega, by simpa using hk, hd2⟩
          · cases hk
        rw [putsF_other _ _ _ _ (hsome i (by omega)) hno, i4 t fun k ok hk hok hdk => hex ⟨k, ok, hk, hok, hdk⟩]
        exact RepV.keep (.of_below i3 fun _ _ h => h) _ _ _ (hsim.fr t)
    · have hb : Below W.heap.size W w2 := i3.trans (hb2.mono i3.size)
      rw [hd]
      refine ⟨by rw [Act.put_size]; exact i1, by rw [Act.put_defers]; exact i2, hb, fun s hs => ?_, fun j oj dj qj hj hoj hdj hqj hlj => ?_⟩
      · rw [Act.put_get (by rw [i1]; exact hdn), if_neg (fun e => hs i o' him ho (by rw [hd, e]))]
        exact i4 s hs
      · rw [Act.put_get (by rw [i1]; exact hdn)]
        by_cases hji : i = j
        · subst hji
          have : oj = o' := by rw [ho] at hoj; cases hoj; rfl
          subst this
          have : dj = d := by rw [hd] at hdj; cases hdj; rfl
          subst this
          have : qj = q := by rw [hq] at hqj; cases hqj; rfl
          subst this
          rw [if_pos rfl]
          exact hr2
        · have hne : d ≠ dj := fun e => hdist i j o' oj him hj ho hoj hji (by rw [hd, hdj, e])
          rw [if_neg hne]
          rw [getD_set_ne false hji] at hlj
          exact RepV.keep (.of_below hb2 fun _ _ h => h) _ _ _ (i5 j oj dj qj hj hoj hdj hqj hlj)
  · -- the tail
    rintro listed a' w' inv hall ⟨i1, i2, i3, i4, i5⟩
    have hlist : listed = (List.replicate m true ++ List.replicate (ops.size - m) false).toArray := by
      apply Array.ext
      · rw [inv.size]; simp; omega
      · intro i h1 h2
        rw [inv.size] at h1
        by_cases him : i < m
        · have := hall i him
          simp only [Array.getD, show i < listed.size by rw [inv.size]; exact h1, dif_pos] at this
          have e : listed[i] = true := this
          rw [e]
          simp [List.getElem_append, him]
        · have := inv.tail i (by omega) h1
          have := getD_both this
          simp only [Array.getD, show i < listed.size by rw [inv.size]; exact h1, dif_pos] at this
          have e : listed[i] = false := this
          rw [e]
          simp [List.getElem_append, him]
    subst hlist
    have hfin : Sim w0 X n r1.2 β a' w' := by
      rw [hr1]
      refine ⟨i1, i2, hsim.bel.then i3, fun s => ?_, hown w' i3, hsim.new, hsim.inj, hsim.lt, hsim.fix, fun s => ?_⟩
      · show RepV w' (OSet X σ.E β) β (Frame.get (putsF σ.F (ops.toList.take m) (rs.map (·.2))) s).t _ _
        by_cases hex : ∃ k ok, k < m ∧ ops[k]? = some ok ∧ ok.dst = some s
        · obtain ⟨k, ok, hkm, hok, hkd⟩ := hex
          obtain ⟨ok', dk, qk, g1, g2, g3, g4, g5⟩ := hget k hkm
          have : ok' = ok := by rw [hok] at g1; cases g1; rfl
          subst this
          have hv := putsF_at (ops.toList.take m) (rs.map (·.2)) σ.F s k ok' qk.2 (hsome m (Nat.le_refl _)) (by rw [List.getElem?_take, if_pos hkm]; simpa using hok) hkd
            (by rw [List.getElem?_map, g4]; rfl) (fun k' o'' hkk hk' => by
              rw [List.getElem?_take] at hk'
              split at hk'
              · have := hdist k' k o'' ok' (by omega) hkm (by simpa using hk') hok (by omega)
                rw [hkd] at this; exact this
              · cases hk')
          rw [hv]
          exact i5 k ok' s qk hkm hok hkd g4 (hall k hkm)
        · have hno : ∀ o ∈ ops.toList.take m, o.dst ≠ some s := by
            intro o2 ho2 hd2
            obtain ⟨k, hk⟩ := List.mem_iff_getElem?.1 ho2
            rw [List.getElem?_take] at hk
            split at hk
            · exact hex ⟨k, o2, by omega, by simpa using hk, hd2⟩
            · cases hk
          rw [putsF_other _ _ _ _ (hsome m (Nat.le_refl _)) hno, i4 s fun k ok hk hok hdk => hex ⟨k, ok, hk, hok, hdk⟩]
          exact RepV.keep (.of_below i3 fun _ _ h => h) _ _ _ (hsim.fr s)
      · show (Frame.get (putsF σ.F (ops.toList.take m) (rs.map (·.2))) s).bound ≤ σ.nx
        have hbd : ∀ k, k ≤ m → ∀ s, (Frame.get (putsF σ.F (ops.toList.take k) ((rs.map (·.2)).take k)) s).bound ≤ σ.nx := by
          intro k
          induction k with
          | zero => intro _ s; simpa [putsF] using hsim.hb s
          | succ k ih =>
            intro hk s
            obtain ⟨o, d, q, e1, e2, e3, e4, e5⟩ := hget k (by omega)
            have hb := gOp_bound e5 (ih (by omega)) hsim.lt
            by_cases hsd : o.dst = some s
            · have hv := putsF_at (ops.toList.take (k + 1)) ((rs.map (·.2)).take (k + 1)) σ.F s k o q.2 (hsome (k + 1) hk) (by rw [List.getElem?_take, if_pos (by omega)]; simpa using e1) hsd
                (by rw [List.getElem?_take, if_pos (by omega), List.getElem?_map, e4]; rfl) (fun k' o'' hkk hk' => by
                  rw [List.getElem?_take] at hk'
                  split at hk'
                  · omega
                  · cases hk')
              rw [hv]
              exact hb
            · by_cases hex : ∃ k' ok, k' < k ∧ ops[k']? = some ok ∧ ok.dst = some s
              · obtain ⟨k', ok, hk', hok, hkd⟩ := hex
                obtain ⟨ok', dk, qk, g1, g2, g3, g4, g5⟩ := hget k' (by omega)
                have : ok' = ok := by rw [hok] at g1; cases g1; rfl
                subst this
                have both : ∀ j, k' < j → j ≤ m → Frame.get (putsF σ.F (ops.toList.take j) ((rs.map (·.2)).take j)) s = qk.2 := fun j hj hjm =>
                  putsF_at _ _ σ.F s k' ok' qk.2 (hsome j hjm) (by rw [List.getElem?_take, if_pos hj]; simpa using hok) hkd
                    (by rw [List.getElem?_take, if_pos hj, List.getElem?_map, g4]; rfl) (fun k2 o'' hkk hk2 => by
                      rw [List.getElem?_take] at hk2
                      split at hk2
                      · have := hdist k2 k' o'' ok' (by omega) (by omega) (by simpa using hk2) hok (by omega)
                        rw [hkd] at this; exact this
                      · cases hk2)
                rw [both (k + 1) (by omega) hk, ← both k hk' (by omega)]
                exact ih (by omega) s
              · have hno : ∀ o ∈ ops.toList.take (k + 1), o.dst ≠ some s := by
                  intro o2 ho2 hd2
                  obtain ⟨k2, hk2⟩ := List.mem_iff_getElem?.1 ho2
                  rw [List.getElem?_take] at hk2
                  split at hk2
                  · have hk2' : ops[k2]? = some o2 := by simpa using hk2
                    by_cases hkk : k2 = k
                    · subst hkk
                      rw [e1] at hk2'
                      cases hk2'
                      exact hsd hd2
                    · exact hex ⟨k2, o2, by omega, hk2', hd2⟩
                  · cases hk2
                rw [putsF_other _ _ _ _ (hsome (k + 1) hk) hno]
                exact hsim.hb s
        have := hbd m (Nat.le_refl _) s
        rwa [List.take_of_length_le (l := rs.map (·.2)) (by simp [hl])] at this
    have hlt : (ops.toList.drop m).length = ops.size - m := by simp
    have := wpAny_of_seq (P := P) (md := .any) (Q' := R) (ops := ops) (ops.toList.drop m) m (List.replicate m true ++ List.replicate (ops.size - m) false).toArray a' w' (fun j => by simp [List.getElem?_drop]) (by rw [hlt]; exact hseq) (aSeq_wp hK hX _ hfin h2 hp2 hR)
    rwa [hlt] at this
end
end Go.Proofs.YtpepbnieocdpbaaDoor
