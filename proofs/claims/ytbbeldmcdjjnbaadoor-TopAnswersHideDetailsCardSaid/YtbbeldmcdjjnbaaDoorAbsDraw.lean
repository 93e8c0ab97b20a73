/-
  A region that draws its order, on a plain state: its head in whatever order, its tail forced. No program is read here.
  Literals of bytes in a region that draws its order: the literal's conversion marks its new block. No program is read here.
  A region that draws its order and makes variables of its own: quiet operations, calls, new variables, whole stores into them. No program is read here.
-/
import Derived.Test.YtbbeldmcdjjnbaaDoorAbsSeq
namespace Go.Proofs.YtbbeldmcdjjnbaaDoor
open Go Go.RowKit
set_option linter.unusedSimpArgs false
set_option linter.unusedVariables false

section
variable {P : Program} {md : Region.Mode} {ops : Array Oper} {R : Exit → Act → World → Prop}

theorem ready_ne {m : Nat} {listed : Array Bool} (hb : backB ops = true) (hm : m ≤ ops.size) (inv : HeadInv .any ops m listed) {i : Nat} (hi : i < m) (hun : listed.getD i false = false) : Region.ready .any ops listed ≠ [] := by
  have key : ∀ k, ∀ i, i ≤ k → i < m → listed.getD i false = false → Region.ready .any ops listed ≠ [] := by
    intro k
    induction k with
    | zero =>
      intro i hik him hl
      have : i = 0 := by omega
      subst this
      intro h0
      have hlt : 0 < ops.size := by omega
      have hmem : 0 ∈ Region.ready .any ops listed := mem_ready.2 ⟨getD_in (by rw [inv.size]; exact hlt) hl, ops[0], by simp [hlt], fun e he hbd => by
        have h1 := List.all_eq_true.1 hb 0 (List.mem_range.2 hlt)
        simp only [Array.getElem?_eq_getElem hlt] at h1
        have h2 := (Array.all_eq_true_iff_forall_mem.1 h1) e he
        simp [hbd] at h2⟩
      rw [h0] at hmem
      cases hmem
    | succ k ih =>
      intro i hik him hl
      by_cases hex : ∃ j, j < i ∧ listed.getD j false = false
      · obtain ⟨j, hj, hlj⟩ := hex
        exact ih j (by omega) (by omega) hlj
      · intro h0
        have hlt : i < ops.size := by omega
        have hmem : i ∈ Region.ready .any ops listed := mem_ready.2 ⟨getD_in (by rw [inv.size]; exact hlt) hl, ops[i], by simp [hlt], fun e he hbd => by
          have h1 := List.all_eq_true.1 hb i (List.mem_range.2 hlt)
          simp only [Array.getElem?_eq_getElem hlt] at h1
          have h2 := (Array.all_eq_true_iff_forall_mem.1 h1) e he
          simp only [hbd, Bool.not_true, Bool.or_false] at h2
          have h3 : e.on < i := by simpa using h2
          cases h4 : listed.getD e.on false with
          | true => rfl
          | false => exact absurd ⟨e.on, h3, h4⟩ hex⟩
        rw [h0] at hmem
        cases hmem
  exact key i i (Nat.le_refl _) hi hun

/-- unlisted ones of the first m -/
def left (listed : Array Bool) (m : Nat) : Nat := ((List.range m).filter fun i => !listed.getD i false).length
theorem left_set {listed : Array Bool} {m i : Nat} (hi : i < m) (hs : i < listed.size) (hun : listed.getD i false = false) : left (listed.setIfInBounds i true) m + 1 = left listed m := by
  unfold left
  have h1 : (List.range m).filter (fun j => !listed.getD j false) = (List.range m).filter (fun j => !(listed.setIfInBounds i true).getD j false || decide (j = i)) := by
    apply List.filter_congr
    intro j hj
    by_cases hji : j = i
    · subst hji; simp [hun]
    · rw [getD_set_ne false (Ne.symm hji)]; simp [hji]
  rw [h1]
  have h2 : ∀ (l : List Nat), l.Nodup → i ∈ l → (l.filter fun j => !(listed.setIfInBounds i true).getD j false || decide (j = i)).length = (l.filter fun j => !(listed.setIfInBounds i true).getD j false).length + 1 := by
    have hii : (listed.setIfInBounds i true).getD i false = true := by simp [Array.getD, hs]
    intro l
    induction l with
    | nil => intro _ h; cases h
    | cons a l ih =>
      intro hnd hmem
      rw [List.nodup_cons] at hnd
      by_cases ha : a = i
      · subst ha
        have h3 : l.filter (fun j => !(listed.setIfInBounds a true).getD j false || decide (j = a)) = l.filter (fun j => !(listed.setIfInBounds a true).getD j false) := by
          apply List.filter_congr
          intro j hj
          have : j ≠ a := fun e => hnd.1 (e ▸ hj)
          simp [this]
        rw [List.filter_cons, List.filter_cons, if_pos (by simp), if_neg (by rw [hii]; simp), h3, List.length_cons]
      · have hm' : i ∈ l := by rcases List.mem_cons.1 hmem with h | h; exact absurd h.symm ha; exact h
        have := ih hnd.2 hm'
        simp only [List.filter_cons, ha, decide_false, Bool.or_false]
        split
        · simp only [List.length_cons, this]
        · exact this
  exact (h2 _ List.nodup_range (List.mem_range.2 hi)).symm
theorem left_zero {listed : Array Bool} {m : Nat} (h : left listed m = 0) : ∀ i, i < m → listed.getD i false = true := by
  intro i hi
  unfold left at h
  have h1 := List.eq_nil_of_length_eq_zero h
  have h2 := List.filter_eq_nil_iff.1 h1 i (List.mem_range.2 hi)
  simpa using h2
theorem left_pos {listed : Array Bool} {m k : Nat} (h : left listed m = k + 1) : ∃ i, i < m ∧ listed.getD i false = false := by
  unfold left at h
  cases hl : (List.range m).filter (fun i => !listed.getD i false) with
  | nil => rw [hl] at h; cases h
  | cons a l =>
    have : a ∈ (List.range m).filter (fun i => !listed.getD i false) := by rw [hl]; simp
    rw [List.mem_filter, List.mem_range] at this
    exact ⟨a, this.1, by simpa using this.2⟩
theorem wpAny_head {m : Nat} (hm : m ≤ ops.size) (hb : backB ops = true) (htl : m = ops.size ∨ (Region.sinkB .any ops m = true ∧ Region.chainB .any ops m = true)) (I : Array Bool → Act → World → Prop) {g : Nat}
    (hstep : ∀ listed a w, I listed a w → ∀ i, i < m → i ∈ Region.ready .any ops listed → wpOp P ops R i (I (listed.setIfInBounds i true)) a w)
    (htail : ∀ listed a w, HeadInv .any ops m listed → (∀ i, i < m → listed.getD i false = true) → I listed a w → wpAny P .any ops R g listed a w) :
    ∀ (f : Nat) (listed : Array Bool) (a : Act) (w : World), left listed m = f → HeadInv .any ops m listed → I listed a w → wpAny P .any ops R (f + g) listed a w := by
  intro f
  induction f with
  | zero =>
    intro listed a w hl inv hI
    rw [Nat.zero_add]
    exact htail listed a w inv (left_zero hl) hI
  | succ f ih =>
    intro listed a w hl inv hI
    obtain ⟨i0, hi0, hun0⟩ := left_pos hl
    have hne := ready_ne hb hm inv hi0 hun0
    rw [show f + 1 + g = (f + g) + 1 by omega]
    refine ⟨fun h0 => absurd h0 hne, fun i hi => ?_⟩
    have hun := (mem_ready.1 hi).1
    have hisz : i < ops.size := by
      obtain ⟨_, o, ho, _⟩ := mem_ready.1 hi
      exact (Array.getElem?_eq_some_iff.1 ho).1
    have him : i < m := by
      rcases Nat.lt_or_ge i m with h | h
      · exact h
      · rcases htl with h1 | ⟨h1, h2⟩
        · omega
        · exact absurd hi (tail_waits h1 h2 (by omega) inv _ i0 rfl hi0 (getD_in (by rw [inv.size]; omega) hun0) i h)
    refine wpOp_mono (fun a' w' hI' => ih _ a' w' ?_ (inv.set hi him) hI') (hstep listed a w hI i him hi)
    have := left_set him (by rw [inv.size]; exact hisz) (getD_both hun)
    omega
end

/-! ### frames of the head -/
def putsF : Frame → List Oper → List V → Frame
  | F, o :: l, v :: vs => putsF ((o.dst.getD 0, v) :: F) l vs
  | F, _, _ => F
theorem putsF_other : ∀ (l : List Oper) (vs : List V) (F : Frame) (t : Nat), (∀ o ∈ l, o.dst.isSome = true) → (∀ o ∈ l, o.dst ≠ some t) → Frame.get (putsF F l vs) t = Frame.get F t
  | [], _, _, _, _, _ => by simp [putsF]
  | o :: l, [], _, _, _, _ => by simp [putsF]
  | o :: l, v :: vs, F, t, hs, h => by
    simp only [putsF]
    rw [putsF_other l vs _ t (fun o ho => hs o (by simp [ho])) (fun o ho => h o (by simp [ho])), Frame.get_cons, if_neg]
    intro e
    have h1 := hs o (by simp)
    have h2 := h o (by simp)
    cases hd : o.dst with
    | none => rw [hd] at h1; cases h1
    | some d => rw [hd] at h2 e; exact h2 (by rw [← e]; rfl)
theorem putsF_at : ∀ (l : List Oper) (vs : List V) (F : Frame) (t k : Nat) (o : Oper) (v : V), (∀ o ∈ l, o.dst.isSome = true) → l[k]? = some o → o.dst = some t → vs[k]? = some v →
    (∀ k' o', k < k' → l[k']? = some o' → o'.dst ≠ some t) → Frame.get (putsF F l vs) t = v
  | o :: l, v :: vs, F, t, 0, o', v', hs, hk, hd, hv, hno => by
    cases hk; cases hv
    simp only [putsF]
    rw [putsF_other l vs _ t (fun o ho => hs o (by simp [ho])) (fun o'' ho => by
      obtain ⟨k', hk'⟩ := List.mem_iff_getElem?.1 ho
      exact hno (k' + 1) o'' (by omega) (by simpa using hk')), Frame.get_cons, if_pos (by rw [hd]; rfl)]
  | o :: l, v :: vs, F, t, k + 1, o', v', hs, hk, hd, hv, hno => by
    simp only [putsF]
    exact putsF_at l vs _ t k o' v' (fun o ho => hs o (by simp [ho])) (by simpa using hk) hd (by simpa using hv) fun k' o'' hkk hk' => hno (k' + 1) o'' (by omega) (by simpa using hk')
  | [], _, _, _, _, _, _, _, hk, _, _, _ => by simp at hk
  | _ :: _, [], _, _, _, _, _, _, _, _, hv, _ => by simp at hv

section
variable {P : Program} {K : Kn} {w0 : World} {X : Ownr} {n : Nat} {σ : AS} {β : Nat → Value} {a : Act} {w : World} {R : Exit → Act → World → Prop} {ops : Array Oper}

/-- what the head's operations yield -/
theorem aHead_spec : ∀ (l : List Oper) (σ : AS) (r : List Prop × AS), aHead K n ops l σ = some r → ∃ rs : List (List Prop × V), rs.length = l.length ∧ (allP r.1 → ∀ q ∈ rs, allP q.1) ∧ r.2 = { σ with F := putsF σ.F l (rs.map (·.2)) } ∧
    ∀ i o, l[i]? = some o → ∃ d q, o.dst = some d ∧ d < n ∧ rs[i]? = some q ∧ gOp K n ops σ.E (putsF σ.F (l.take i) ((rs.map (·.2)).take i)) o = some q
  | [], σ, r, h => by
    cases h
    exact ⟨[], rfl, fun _ q hq => by simp at hq, rfl, fun i o hi => by simp at hi⟩
  | o :: l, σ, r, h => by
    obtain ⟨F, E, nx⟩ := σ
    simp only [aHead] at h
    split at h
    · rename_i d hd
      split at h
      · rename_i hlt
        split at h <;> first | (cases h; done) | skip
        rename_i p t x h1
        obtain ⟨q', h3, rfl⟩ := preS_some h
        obtain ⟨rs, g1, g2, g3, g4⟩ := aHead_spec l _ _ h3
        refine ⟨(p, ⟨t, x⟩) :: rs, by simp [g1], fun hp y hx => ?_, ?_, fun i o' hi => ?_⟩
        · rw [allP_append] at hp
          rcases List.mem_cons.1 hx with rfl | hx
          · exact hp.1
          · exact g2 hp.2 y hx
        · rw [g3]
          simp only [List.map_cons, putsF, hd, Option.getD_some]
        · cases i with
          | zero =>
            cases hi
            exact ⟨d, _, hd, by simpa using hlt, rfl, by simpa [putsF] using h1⟩
          | succ i =>
            obtain ⟨d', q'', e1, e2, e3, e4⟩ := g4 i o' (by simpa using hi)
            refine ⟨d', q'', e1, e2, by simpa using e3, ?_⟩
            simp only [List.map_cons, List.take_succ_cons, putsF, hd, Option.getD_some] at e4 ⊢
            exact e4
      · cases h
    · cases h
/-- a region that draws its order -/
theorem draw_any (hK : KnOk P X.G K) (hX : X.Ok w0) (h : Sim w0 X n σ β a w) {m : Nat} (hB : headB ops m = true) {r1 r2 : List Prop × AS} (h1 : aHead K n ops (ops.toList.take m) σ = some r1) (h2 : aSeq K n ops (ops.toList.drop m) r1.2 = some r2)
    (hp1 : allP r1.1) (hp2 : allP r2.1) (hR : ∀ β' a' w', Sim w0 X n r2.2 β' a' w' → R .normal a' w') : wpAny P .any ops R ops.size (Array.replicate ops.size false) a { w with drawn := w.drawn + 1 } := by
  simp only [headB, Bool.and_eq_true, Nat.ble_eq] at hB
  obtain ⟨⟨⟨⟨hms, hflow⟩, hback⟩, htl0⟩, hseq⟩ := hB
  have htl : m = ops.size ∨ (Region.sinkB .any ops m = true ∧ Region.chainB .any ops m = true) := by
    simp only [Bool.or_eq_true, Bool.and_eq_true, Nat.beq_eq] at htl0
    exact htl0
  obtain ⟨rs, hl, hps, hr1, hspec⟩ := aHead_spec _ _ _ h1
  have hlen : (ops.toList.take m).length = m := by simp; omega
  rw [hlen] at hl
  have hget : ∀ i, i < m → ∃ o d q, ops[i]? = some o ∧ o.dst = some d ∧ d < n ∧ rs[i]? = some q ∧ gOp K n ops σ.E (putsF σ.F (ops.toList.take i) ((rs.map (·.2)).take i)) o = some q := by
    intro i hi
    have hlt : i < ops.size := by omega
    obtain ⟨d, q, e1, e2, e3, e4⟩ := hspec i ops[i] (by rw [List.getElem?_take, if_pos hi]; simp [hlt])
    rw [List.take_take, Nat.min_eq_left (by omega)] at e4
    exact ⟨ops[i], d, q, by simp [hlt], e1, e2, e3, e4⟩
  have hsome : ∀ k, k ≤ m → ∀ o ∈ ops.toList.take k, o.dst.isSome = true := by
    intro k hk o ho
    obtain ⟨i, hi⟩ := List.mem_iff_getElem?.1 ho
    rw [List.getElem?_take] at hi
    split at hi
    · obtain ⟨o', d, q, e1, e2, _⟩ := hget i (by omega)
      have : o' = o := by
        have : ops.toList[i]? = some o' := by simpa using e1
        rw [this] at hi; cases hi; rfl
      rw [← this, e2]; rfl
    · cases hi
  -- the flow
  have hdist : ∀ i j oi oj, i < m → j < m → ops[i]? = some oi → ops[j]? = some oj → i ≠ j → oi.dst ≠ oj.dst := by
    intro i j oi oj hi hj hoi hoj hij
    have h3 := List.all_eq_true.1 hflow j (List.mem_range.2 hj)
    rw [hoj] at h3
    have h4 := List.all_eq_true.1 h3 i (List.mem_range.2 hi)
    rw [hoi] at h4
    simp only [Bool.and_eq_true, Bool.or_eq_true, Nat.beq_eq, Bool.not_eq_true'] at h4
    rcases h4.1 with h5 | h5
    · exact absurd h5 hij
    · intro e; rw [e] at h5; simp at h5
  have hdep : ∀ i j oi oj t, i < m → j < m → ops[i]? = some oi → ops[j]? = some oj → t ∈ seesT ops oj → oi.dst = some t → i < j ∧ ∃ e ∈ oj.after, e.on = i ∧ Region.binds .any e = true := by
    intro i j oi oj t hi hj hoi hoj ht hd
    have h3 := List.all_eq_true.1 hflow j (List.mem_range.2 hj)
    rw [hoj] at h3
    have h4 := List.all_eq_true.1 h3 i (List.mem_range.2 hi)
    rw [hoi] at h4
    simp only [Bool.and_eq_true] at h4
    have h5 := List.all_eq_true.1 h4.2 t ht
    rw [hd] at h5
    simp only [beq_self_eq_true, Bool.not_true, Bool.false_or, Bool.and_eq_true] at h5
    refine ⟨by simpa using h5.1, ?_⟩
    obtain ⟨e, he, h6⟩ := Array.any_eq_true'.1 h5.2
    simp only [Bool.and_eq_true, Nat.beq_eq] at h6
    exact ⟨e, he, h6.1, h6.2⟩
  let W := w.drew
  have hsim : Sim w0 X n σ β a W := ⟨h.sz, h.df, h.bel.then ((Below.refl _ _).drew), fun s => RepV.keep (.of_below ((Below.refl _ _).drew) fun _ _ h => h) _ _ _ (h.fr s), fun i o ho => (h.own i o ho).keep (.of_below ((Below.refl _ _).drew) fun _ _ h => h) fun _ _ => rfl, h.new, h.inj, h.lt, h.fix, h.hb, h.hE⟩
  let I : Array Bool → Act → World → Prop := fun listed a' w' =>
    a'.tmps.size = n ∧ a'.defers = X.D ∧ Below W.heap.size W w' ∧ (∀ s, (∀ i o, i < m → ops[i]? = some o → o.dst ≠ some s) → a'.tmps.getD s undef = a.tmps.getD s undef) ∧
    (∀ i o d q, i < m → ops[i]? = some o → o.dst = some d → rs[i]? = some q → listed.getD i false = true → RepV w' (OSet X σ.E β) β q.2.t q.2.x (a'.tmps.getD d undef))
  have hsum : ops.size = left (Array.replicate ops.size false) m + (ops.size - m) := by
    have : left (Array.replicate ops.size false) m = m := by
      unfold left
      have : (List.range m).filter (fun i => !(Array.replicate ops.size false).getD i false) = List.range m := by
        rw [List.filter_eq_self]
        intro i _
        rw [getD_replicate_false]
        rfl
      rw [this, List.length_range]
    omega
  have hown : ∀ w', Below W.heap.size W w' → ∀ i o, Owns.get σ.E i = some o → OwnRep w' (OSet X σ.E β) β 0 (β i) o := fun w' hb i o ho =>
    (hsim.own i o ho).keep (.of_below hb fun _ _ h => h) fun g hg => hb.block g ((hsim.own i o ho).block_lt hg).2
  have hO : ∀ w', Below W.heap.size W w' → ∀ g, OSet X σ.E β g → g < w'.heap.size := fun w' hb g hg => Nat.lt_of_lt_of_le (hsim.hO hX g hg) hb.size
  suffices hkey : wpAny P .any ops R (left (Array.replicate ops.size false) m + (ops.size - m)) (Array.replicate ops.size false) a W by
    rw [← hsum] at hkey
    exact hkey
  refine wpAny_head hms hback htl I ?_ ?_ _ _ a W rfl ⟨by simp, fun j oj _ hlj => (by rw [getD_replicate_false] at hlj; cases hlj), fun t _ ht => getD_in (by simpa using ht) (getD_replicate_false _ _)⟩ ⟨h.sz, h.df, Below.refl _ _, fun _ _ => rfl, fun i o d q _ _ _ _ hli => by rw [getD_replicate_false] at hli; cases hli⟩
  · -- an operation of the head comes up
    rintro listed a' w' ⟨i1, i2, i3, i4, i5⟩ i him hir
    obtain ⟨hun, o', ho', hdone⟩ := mem_ready.1 hir
    obtain ⟨o, d, q, ho, hd, hdn, hq, hg⟩ := hget i him
    have : o' = o := by rw [ho] at ho'; cases ho'; rfl
    subst this
    unfold wpOp
    rw [ho]
    simp only
    have hqp : allP q.1 := hps hp1 q (List.mem_of_getElem? hq)
    refine gOp_wp hK (hX.2.2 w' (hsim.bel.then i3)) (hO w' i3) (hown w' i3) hg hqp i1 (fun t ht => ?_) fun u w2 hb2 hr2 => ?_
    · by_cases hex : ∃ k ok, k < m ∧ ops[k]? = some ok ∧ ok.dst = some t
      · obtain ⟨k, ok, hkm, hok, hkd⟩ := hex
        obtain ⟨hki, e, he, heon, heb⟩ := hdep k i ok o' t hkm him hok ho ht hkd
        have hlk := hdone e he heb
        rw [heon] at hlk
        obtain ⟨ok', dk, qk, g1, g2, g3, g4, g5⟩ := hget k hkm
        have : ok' = ok := by rw [hok] at g1; cases g1; rfl
        subst this
        have hv := putsF_at (ops.toList.take i) ((rs.map (·.2)).take i) σ.F t k ok' qk.2 (hsome i (by omega)) (by rw [List.getElem?_take, if_pos hki]; simpa using hok) hkd
          (by rw [List.getElem?_take, if_pos hki, List.getElem?_map, g4]; rfl) (fun k' o'' hkk hk' => by
            rw [List.getElem?_take] at hk'
            split at hk'
            · have := hdist k' k o'' ok' (by omega) hkm (by simpa using hk') hok (by omega)
              rw [hkd] at this; exact this
            · cases hk')
        rw [hv]
        exact i5 k ok' t qk hkm hok hkd g4 hlk
      · have hno : ∀ o ∈ ops.toList.take i, o.dst ≠ some t := by
          intro o2 ho2 hd2
          obtain ⟨k, hk⟩ := List.mem_iff_getElem?.1 ho2
          rw [List.getElem?_take] at hk
          split at hk
          · exact hex ⟨k, o2, by omega, by simpa using hk, hd2⟩
          · cases hk
        rw [putsF_other _ _ _ _ (hsome i (by omega)) hno, i4 t fun k ok hk hok hdk => hex ⟨k, ok, hk, hok, hdk⟩]
        exact RepV.keep (.of_below i3 fun _ _ h => h) _ _ _ (hsim.fr t)
    · have hb : Below W.heap.size W w2 := i3.trans (hb2.mono i3.size)
      rw [hd]
      refine ⟨by rw [Act.put_size]; exact i1, by rw [Act.put_defers]; exact i2, hb, fun s hs => ?_, fun j oj dj qj hj hoj hdj hqj hlj => ?_⟩
      · rw [Act.put_get (by rw [i1]; exact hdn), if_neg (fun e => hs i o' him ho (by rw [hd, e]))]
        exact i4 s hs
      · rw [Act.put_get (by rw [i1]; exact hdn)]
        by_cases hji : i = j
        · subst hji
          have : oj = o' := by rw [ho] at hoj; cases hoj; rfl
          subst this
          have : dj = d := by rw [hd] at hdj; cases hdj; rfl
          subst this
          have : qj = q := by rw [hq] at hqj; cases hqj; rfl
          subst this
          rw [if_pos rfl]
          exact hr2
        · have hne : d ≠ dj := fun e => hdist i j o' oj him hj ho hoj hji (by rw [hd, hdj, e])
          rw [if_neg hne]
          rw [getD_set_ne false hji] at hlj
          exact RepV.keep (.of_below hb2 fun _ _ h => h) _ _ _ (i5 j oj dj qj hj hoj hdj hqj hlj)
  · -- the tail
    rintro listed a' w' inv hall ⟨i1, i2, i3, i4, i5⟩
    have hlist : listed = (List.replicate m true ++ List.replicate (ops.size - m) false).toArray := by
      apply Array.ext
      · rw [inv.size]; simp; omega
      · intro i h1 h2
        rw [inv.size] at h1
        by_cases him : i < m
        · have := hall i him
          simp only [Array.getD, show i < listed.size by rw [inv.size]; exact h1, dif_pos] at this
          have e : listed[i] = true := this
          rw [e]
          simp [List.getElem_append, him]
        · have := inv.tail i (by omega) h1
          have := getD_both this
          simp only [Array.getD, show i < listed.size by rw [inv.size]; exact h1, dif_pos] at this
          have e : listed[i] = false := this
          rw [e]
          simp [List.getElem_append, him]
    subst hlist
    have hfin : Sim w0 X n r1.2 β a' w' := by
      rw [hr1]
      refine ⟨i1, i2, hsim.bel.then i3, fun s => ?_, hown w' i3, hsim.new, hsim.inj, hsim.lt, hsim.fix, fun s => ?_, hsim.hE⟩
      · show RepV w' (OSet X σ.E β) β (Frame.get (putsF σ.F (ops.toList.take m) (rs.map (·.2))) s).t _ _
        by_cases hex : ∃ k ok, k < m ∧ ops[k]? = some ok ∧ ok.dst = some s
        · obtain ⟨k, ok, hkm, hok, hkd⟩ := hex
          obtain ⟨ok', dk, qk, g1, g2, g3, g4, g5⟩ := hget k hkm
          have : ok' = ok := by rw [hok] at g1; cases g1; rfl
          subst this
          have hv := putsF_at (ops.toList.take m) (rs.map (·.2)) σ.F s k ok' qk.2 (hsome m (Nat.le_refl _)) (by rw [List.getElem?_take, if_pos hkm]; simpa using hok) hkd
            (by rw [List.getElem?_map, g4]; rfl) (fun k' o'' hkk hk' => by
              rw [List.getElem?_take] at hk'
              split at hk'
              · have := hdist k' k o'' ok' (by omega) hkm (by simpa using hk') hok (by omega)
                rw [hkd] at this; exact this
              · cases hk')
          rw [hv]
          exact i5 k ok' s qk hkm hok hkd g4 (hall k hkm)
        · have hno : ∀ o ∈ ops.toList.take m, o.dst ≠ some s := by
            intro o2 ho2 hd2
            obtain ⟨k, hk⟩ := List.mem_iff_getElem?.1 ho2
            rw [List.getElem?_take] at hk
            split at hk
            · exact hex ⟨k, o2, by omega, by simpa using hk, hd2⟩
            · cases hk
          rw [putsF_other _ _ _ _ (hsome m (Nat.le_refl _)) hno, i4 s fun k ok hk hok hdk => hex ⟨k, ok, hk, hok, hdk⟩]
          exact RepV.keep (.of_below i3 fun _ _ h => h) _ _ _ (hsim.fr s)
      · show (Frame.get (putsF σ.F (ops.toList.take m) (rs.map (·.2))) s).bound ≤ σ.nx
        have hbd : ∀ k, k ≤ m → ∀ s, (Frame.get (putsF σ.F (ops.toList.take k) ((rs.map (·.2)).take k)) s).bound ≤ σ.nx := by
          intro k
          induction k with
          | zero => intro _ s; simpa [putsF] using hsim.hb s
          | succ k ih =>
            intro hk s
            obtain ⟨o, d, q, e1, e2, e3, e4, e5⟩ := hget k (by omega)
            have hb := gOp_bound e5 (ih (by omega)) (fun i o ho => ⟨hsim.lt i o ho, hsim.hE i o ho⟩) fun t τ ht => (hK.t.lay t τ ht).data
            by_cases hsd : o.dst = some s
            · have hv := putsF_at (ops.toList.take (k + 1)) ((rs.map (·.2)).take (k + 1)) σ.F s k o q.2 (hsome (k + 1) hk) (by rw [List.getElem?_take, if_pos (by omega)]; simpa using e1) hsd
                (by rw [List.getElem?_take, if_pos (by omega), List.getElem?_map, e4]; rfl) (fun k' o'' hkk hk' => by
                  rw [List.getElem?_take] at hk'
                  split at hk'
                  · omega
                  · cases hk')
              rw [hv]
              exact hb
            · by_cases hex : ∃ k' ok, k' < k ∧ ops[k']? = some ok ∧ ok.dst = some s
              · obtain ⟨k', ok, hk', hok, hkd⟩ := hex
                obtain ⟨ok', dk, qk, g1, g2, g3, g4, g5⟩ := hget k' (by omega)
                have : ok' = ok := by rw [hok] at g1; cases g1; rfl
                subst this
                have both : ∀ j, k' < j → j ≤ m → Frame.get (putsF σ.F (ops.toList.take j) ((rs.map (·.2)).take j)) s = qk.2 := fun j hj hjm =>
                  putsF_at _ _ σ.F s k' ok' qk.2 (hsome j hjm) (by rw [List.getElem?_take, if_pos hj]; simpa using hok) hkd
                    (by rw [List.getElem?_take, if_pos hj, List.getElem?_map, g4]; rfl) (fun k2 o'' hkk hk2 => by
                      rw [List.getElem?_take] at hk2
                      split at hk2
                      · have := hdist k2 k' o'' ok' (by omega) (by omega) (by simpa using hk2) hok (by omega)
                        rw [hkd] at this; exact this
                      · cases hk2)
                rw [both (k + 1) (by omega) hk, ← both k hk' (by omega)]
                exact ih (by omega) s
              · have hno : ∀ o ∈ ops.toList.take (k + 1), o.dst ≠ some s := by
                  intro o2 ho2 hd2
                  obtain ⟨k2, hk2⟩ := List.mem_iff_getElem?.1 ho2
                  rw [List.getElem?_take] at hk2
                  split at hk2
                  · have hk2' : ops[k2]? = some o2 := by simpa using hk2
                    by_cases hkk : k2 = k
                    · subst hkk
                      rw [e1] at hk2'
                      cases hk2'
                      exact hsd hd2
                    · exact hex ⟨k2, o2, by omega, hk2', hd2⟩
                  · cases hk2
                rw [putsF_other _ _ _ _ (hsome (k + 1) hk) hno]
                exact hsim.hb s
        have := hbd m (Nat.le_refl _) s
        rwa [List.take_of_length_le (l := rs.map (·.2)) (by simp [hl])] at this
    have hlt : (ops.toList.drop m).length = ops.size - m := by simp
    have := wpAny_of_seq (P := P) (md := .any) (Q' := R) (ops := ops) (ops.toList.drop m) m (List.replicate m true ++ List.replicate (ops.size - m) false).toArray a' w' (fun j => by simp [List.getElem?_drop]) (by rw [hlt]; exact hseq) (aSeq_wp hK hX _ hfin h2 hp2 hR)
    rwa [hlt] at this
end
end Go.Proofs.YtbbeldmcdjjnbaaDoor
namespace Go.Proofs.YtbbeldmcdjjnbaaDoor
open Go Go.RowKit
set_option linter.unusedSimpArgs false
set_option linter.unusedVariables false

/-- a new list's value, or none -/
def NewB (W w' : World) (u : Value) : Prop := u = undef ∨ ∃ g k c cs te fz, u = .slice (some ⟨g, 0, none⟩) k c ∧ W.heap.size ≤ g ∧ w'.heap[g]? = some (.cells cs te fz)
theorem NewB.keepM {W w w' : World} {u : Value} (h : NewB W w u) (hk : KeepsM w w') : NewB W w' u := by
  rcases h with h | ⟨g, k, c, cs, te, fz, h1, h2, h3⟩
  · exact .inl h
  · obtain ⟨fz', h4⟩ := hk.block g cs te fz h3
    exact .inr ⟨g, k, c, cs, te, fz', h1, h2, h4⟩
theorem NewB.from {W w w' : World} {u : Value} (h : NewB w w' u) (hs : W.heap.size ≤ w.heap.size) : NewB W w' u := by
  rcases h with h | ⟨g, k, c, cs, te, fz, h1, h2, h3⟩
  · exact .inl h
  · exact .inr ⟨g, k, c, cs, te, fz, h1, Nat.le_trans hs h2, h3⟩
def isBuild (o : Oper) : Bool := match o.op with
  | .buildSlice _ _ _ => true
  | _ => false
/-- a conversion of a literal of bytes of the head to its own type -/
def markT (ops : Array Oper) (m : Nat) (o : Oper) : Option (TypeId × Nat) := match o.op with
  | .convert s d (.tmp t) => if Nat.beq s d && ((List.range m).any fun j => match ops[j]? with | some oj => isBuild oj && (oj.dst == some t) | none => false) then some (s, t) else none
  | _ => none
theorem markT_spec {ops : Array Oper} {m : Nat} {o : Oper} {s t : Nat} (h : markT ops m o = some (s, t)) : o.op = .convert s s (.tmp t) ∧ ∃ j oj, j < m ∧ ops[j]? = some oj ∧ isBuild oj = true ∧ oj.dst = some t := by
  unfold markT at h
  split at h
  · rename_i s' d t' hop
    split at h
    · rename_i hc
      cases h
      simp only [Bool.and_eq_true] at hc
      have : s = d := Nat.eq_of_beq_eq_true hc.1
      subst this
      obtain ⟨j, hj, h2⟩ := List.any_eq_true.1 hc.2
      rw [List.mem_range] at hj
      split at h2
      · rename_i oj hoj
        simp only [Bool.and_eq_true, beq_iff_eq] at h2
        exact ⟨hop, j, oj, hj, hoj, h2.1, h2.2⟩
      · cases h2
    · cases h
  · cases h
noncomputable def hOp (K : Kn) (n : Nat) (ops : Array Oper) (m : Nat) (E : Owns) (F : Frame) (o : Oper) : Res :=
  match markT ops m o with
  | some (s, t) => if tis K.T s (.slice (.int .u8)) then (match o.guard with
    | none => match Frame.get F t with
      | ⟨.slice (.int .u8), x⟩ => some ([], ⟨.slice (.int .u8), x⟩)
      | _ => none
    | some (j, want) => match (ops[j]?).bind (·.dst) with
      | some dj => if Nat.blt dj n then (match gcond (Frame.get F dj) want, Frame.get F t with
        | some c, ⟨.cond (.slice (.int .u8)), x⟩ => some ([c = true → x.1 = true], ⟨.cond (.slice (.int .u8)), (c, x.2)⟩)
        | _, _ => none) else none
      | none => none) else none
  | none => gOp K n ops E F o
noncomputable def mHead (K : Kn) (n : Nat) (ops : Array Oper) (m : Nat) : List Oper → AS → Option (List Prop × AS)
  | [], σ => some ([], σ)
  | o :: r, ⟨F, E, nx⟩ => match o.dst with
    | some d => if Nat.blt d n then (match hOp K n ops m E F o with
      | some (p, ⟨t, x⟩) => preS p (mHead K n ops m r ⟨(d, ⟨t, x⟩) :: F, E, nx⟩)
      | none => none) else none
    | none => none
section
variable {P : Program} {K : Kn} {w0 : World} {X : Ownr} {n : Nat} {σ : AS} {β : Nat → Value} {a : Act} {w : World} {R : Exit → Act → World → Prop} {ops : Array Oper}
theorem hOp_bound {E : Owns} {F : Frame} {m : Nat} {o : Oper} {r : List Prop × V} (h : hOp K n ops m E F o = some r) {k : Nat} (hF : ∀ s, (Frame.get F s).bound ≤ k) (hE : ∀ i o, Owns.get E i = some o → i < k ∧ o.under k) (hT : ∀ t τ, tget K.T t = some τ → τ.data = true) : r.2.bound ≤ k := by
  unfold hOp at h
  split at h
  · split at h
    · split at h
      · split at h
        · cases h; exact Nat.zero_le _
        · cases h
      · split at h
        · split at h
          · split at h
            · cases h; exact Nat.zero_le _
            · cases h
          · cases h
        · cases h
    · cases h
  · exact gOp_bound h hF hE hT
theorem build_wp {G : World → Prop} (hK : KnOk P G K) {O : Nat → Prop} (hO : ∀ g, O g → g < w.heap.size) {E : Owns} {F : Frame} {o : Oper} {r : List Prop × V} (h : gOp K n ops E F o = some r) (hbd : isBuild o = true) (hp : allP r.1) (hsz : a.tmps.size = n)
    (hops : ∀ t ∈ seesT ops o, RepV w O β (Frame.get F t).t (Frame.get F t).x (a.tmps.getD t undef)) {N : Act → World → Prop}
    (hN : ∀ u w', Below w.heap.size w w' → RepV w' O β r.2.t r.2.x u → NewB w w' u → N (a.put o.dst u) w') :
    if Region.wanted o (yielded ops a.tmps) then o.wp P a w N R ∨ (o.asks P a w ∧ LetsOut R) else N (a.put o.dst undef) w := by
  have hop2 : ∀ x ∈ o.op.operands, RepV w O β (evO F x).t (evO F x).x (a.eval x) := fun x hx => evO_rep fun s hs => hops s (by
    unfold seesT
    refine List.mem_append.2 (.inl (List.mem_filterMap.2 ⟨x, by simpa using hx, ?_⟩))
    rw [hs])
  have hrun : ∀ {p : List Prop} {v : V}, cOp K.T K.Q K.C E F o.op = some (p, v) → allP p → ∀ {N : Act → World → Prop}, (∀ u w', Below w.heap.size w w' → RepV w' O β v.t v.x u → NewB w w' u → N (a.put o.dst u) w') → o.wp P a w N R := by
    intro p v h1 hp' N hN
    unfold isBuild at hbd
    split at hbd
    · rename_i t len parts hop
      rw [hop] at h1 hop2
      have h1 : pOp K.T K.Q E F (.buildSlice t len parts) = some (p, v) := h1
      simp only [pOp] at h1
      split at h1 <;> first | (cases h1; done) | skip
      rename_i pq eq xq h2
      cases h1
      have hps : RepPs w O β (parts.toList.map fun p => (p.1, evO F p.2)) (parts.map fun p => (p.1, a.eval p.2)).toList := by
        rw [Array.toList_map]
        exact repPs_map fun p hpm => hop2 p.2 (by simp only [Op.operands]; simp; exact ⟨p.1, by simpa using hpm⟩)
      have hlen : len ≤ maxLen := by
        have h3 := h2
        unfold buildSliceV at h3
        split at h3
        · split at h3
          · rename_i e _ hb
            simp only [Bool.and_eq_true, Nat.ble_eq] at hb
            have hpos : 0 < e.size := by simpa using hb.2
            have := Nat.le_mul_of_pos_right len hpos
            simp only [maxLen]
            omega
          · cases h3
        · cases h3
      obtain ⟨ds, te, _, _, _, g1, g2, g3⟩ := buildSliceV_run (P := P) (w := w) hK.t h2 hp' hps
      have hrep : RepV (w.alloc (.cells ds.toArray te)) O β (.slice eq) xq (.slice (some ⟨w.heap.size, 0, none⟩) len len) := by
        have := repS_new hO g1 (cap := len) (by omega) hlen (below_alloc w (.cells ds.toArray te)) (heap_alloc_new w _) (fun j u hj => by simpa using hj)
        rw [g2] at this
        exact RepV.ofSlice this
      refine wp_run (u := .slice (some ⟨w.heap.size, 0, none⟩) len len) (w' := w.alloc (.cells ds.toArray te)) ?_ (hN _ _ (below_alloc _ _) hrep (.inr ⟨w.heap.size, len, len, ds.toArray, te, (0, 0), rfl, Nat.le_refl _, heap_alloc_new w _⟩))
      unfold execOp
      rw [hop]
      exact run_v g3
    · cases hbd
  unfold gOp at h
  cases hg : o.guard with
  | none =>
    rw [hg] at h
    simp only at h
    split at h <;> first | (cases h; done) | skip
    rename_i p t x h1
    have h2 := h
    split at h2
    · cases h2
      simp only [Region.wanted, hg, if_true]
      exact .inl (hrun h1 hp hN)
    · cases h2
  | some g =>
    obtain ⟨j, want⟩ := g
    rw [hg] at h
    simp only at h
    split at h
    · rename_i dj hdj
      split at h
      · rename_i hlt
        split at h <;> first | (cases h; done) | skip
        rename_i c p v h1 h3
        have h4 := h
        split at h4 <;> first | (cases h4; done) | skip
        · have h4 := impV_some h4
          subst h4
          have hlt' : dj < n := by simpa using hlt
          have hrep := hops dj (by unfold seesT; rw [hg]; simp [hdj])
          have hw : Region.wanted o (yielded ops a.tmps) = c := by
            unfold Region.wanted
            rw [hg]
            simp only
            rw [yielded_of hdj (by rw [hsz]; exact hlt')]
            exact gcond_wanted h1 hrep
          rw [hw]
          cases hc : c with
          | true =>
            rw [if_pos rfl]
            refine .inl (hrun h3 (allP_impP hp hc) fun u w' hb hr hn => hN u w' hb (condV_rep (fun _ => hr) (fun h0 => ?_)) hn)
            rw [hc] at h0; cases h0
          | false =>
            rw [if_neg (by simp)]
            exact hN undef w (Below.refl _ _) (condV_rep (fun h0 => by rw [hc] at h0; cases h0) fun _ => rfl) (.inl rfl)
      · cases h
    · cases h
theorem mark_wp {G : World → Prop} (hK : KnOk P G K) {O : Nat → Prop} {W : World} {E : Owns} {F : Frame} {m : Nat} {o : Oper} {s t : Nat} (hmk : markT ops m o = some (s, t)) {r : List Prop × V} (h : hOp K n ops m E F o = some r) (hp : allP r.1) (hsz : a.tmps.size = n)
    (hops : ∀ t ∈ seesT ops o, RepV w O β (Frame.get F t).t (Frame.get F t).x (a.tmps.getD t undef)) (hWs : W.heap.size ≤ w.heap.size) (hnb : NewB W w (a.tmps.getD t undef)) {N : Act → World → Prop}
    (hN : ∀ u w', Marked W w w' → KeepsM w w' → RepV w' O β r.2.t r.2.x u → N (a.put o.dst u) w') :
    if Region.wanted o (yielded ops a.tmps) then o.wp P a w N R ∨ (o.asks P a w ∧ LetsOut R) else N (a.put o.dst undef) w := by
  obtain ⟨hop, _⟩ := markT_spec hmk
  have htm : t ∈ seesT ops o := by
    unfold seesT
    refine List.mem_append.2 (.inl (List.mem_filterMap.2 ⟨.tmp t, ?_, rfl⟩))
    rw [hop]
    simp [Op.operands]
  have hrt := hops t htm
  have hself : Marked W w w ∧ KeepsM w w := ⟨⟨rfl, rfl, rfl, Nat.le_refl _, fun _ _ => rfl⟩, ⟨Nat.le_refl _, fun _ _ _ fz h => ⟨fz, h⟩, fun _ _ _ h => h⟩⟩
  unfold hOp at h
  rw [hmk] at h
  simp only at h
  split at h <;> first | (cases h; done) | skip
  rename_i hs
  obtain ⟨e, hu, _, he⟩ := hK.t.is hs
  have key : ∀ x : List UInt8, RepV w O β (.slice (.int .u8)) x (a.tmps.getD t undef) → ∀ {N : Act → World → Prop}, (∀ u w', Marked W w w' → KeepsM w w' → RepV w' O β (.slice (.int .u8)) x u → N (a.put o.dst u) w') → o.wp P a w N R := by
    intro x hx N hN
    rcases hnb with hnb | ⟨g, k, c, cs, te, fz, h1, h2, h3⟩
    · rw [hnb] at hx
      obtain ⟨A, c, hA, _⟩ := (RepV.slice hx).nlen
      cases hA
    · obtain ⟨w2, h4, h5, h6⟩ := mark_run (P := P) (k := k) (c := c) hu he.1 h3
      refine wp_run (u := .slice (some ⟨g, 0, none⟩) k c) (w' := w2) ?_ (hN _ _ (.of h5 h2 hWs) h6 (RepV.keepM h6 _ _ _ (by rw [h1] at hx; exact hx)))
      unfold execOp
      rw [hop]
      rw [← h1] at h4 ⊢
      exact run_v h4
  cases hg : o.guard with
  | none =>
    rw [hg] at h
    simp only at h
    split at h <;> first | (cases h; done) | skip
    rename_i x hx
    cases h
    rw [hx] at hrt
    simp only [Region.wanted, hg, if_true]
    exact .inl (key x hrt hN)
  | some gd =>
    obtain ⟨j, want⟩ := gd
    rw [hg] at h
    simp only at h
    split at h <;> first | (cases h; done) | skip
    rename_i dj hdj
    split at h <;> first | (cases h; done) | skip
    rename_i hlt
    split at h <;> first | (cases h; done) | skip
    rename_i c x h1 hx
    cases h
    have hp : c = true → x.1 = true := hp
    rw [hx] at hrt
    have hlt' : dj < n := by simpa using hlt
    have hrep := hops dj (by unfold seesT; rw [hg]; simp [hdj])
    have hw : Region.wanted o (yielded ops a.tmps) = c := by
      unfold Region.wanted
      rw [hg]
      simp only
      rw [yielded_of hdj (by rw [hsz]; exact hlt')]
      exact gcond_wanted h1 hrep
    rw [hw]
    cases hc : c with
    | true =>
      rw [if_pos rfl]
      refine .inl (key x.2 (hrt.1 (hp hc)) fun u w' hb hk hr => hN u w' hb hk ⟨fun _ => hr, fun h0 => ?_⟩)
      have h0 : c = false := h0
      rw [hc] at h0; cases h0
    | false =>
      rw [if_neg (by simp)]
      refine hN undef w hself.1 hself.2 ⟨fun h0 => ?_, fun _ => rfl⟩
      have h0 : c = true := h0
      rw [hc] at h0; cases h0
/-- what the head's operations yield -/
theorem mHead_spec {m : Nat} : ∀ (l : List Oper) (σ : AS) (r : List Prop × AS), mHead K n ops m l σ = some r → ∃ rs : List (List Prop × V), rs.length = l.length ∧ (allP r.1 → ∀ q ∈ rs, allP q.1) ∧ r.2 = { σ with F := putsF σ.F l (rs.map (·.2)) } ∧
    ∀ i o, l[i]? = some o → ∃ d q, o.dst = some d ∧ d < n ∧ rs[i]? = some q ∧ hOp K n ops m σ.E (putsF σ.F (l.take i) ((rs.map (·.2)).take i)) o = some q
  | [], σ, r, h => by
    cases h
    exact ⟨[], rfl, fun _ q hq => by simp at hq, rfl, fun i o hi => by simp at hi⟩
  | o :: l, σ, r, h => by
    obtain ⟨F, E, nx⟩ := σ
    simp only [mHead] at h
    split at h
    · rename_i d hd
      split at h
      · rename_i hlt
        split at h <;> first | (cases h; done) | skip
        rename_i p t x h1
        obtain ⟨q', h3, rfl⟩ := preS_some h
        obtain ⟨rs, g1, g2, g3, g4⟩ := mHead_spec l _ _ h3
        refine ⟨(p, ⟨t, x⟩) :: rs, by simp [g1], fun hp y hx => ?_, ?_, fun i o' hi => ?_⟩
        · rw [allP_append] at hp
          rcases List.mem_cons.1 hx with rfl | hx
          · exact hp.1
          · exact g2 hp.2 y hx
        · rw [g3]
          simp only [List.map_cons, putsF, hd, Option.getD_some]
        · cases i with
          | zero =>
            cases hi
            exact ⟨d, _, hd, by simpa using hlt, rfl, by simpa [putsF] using h1⟩
          | succ i =>
            obtain ⟨d', q'', e1, e2, e3, e4⟩ := g4 i o' (by simpa using hi)
            refine ⟨d', q'', e1, e2, by simpa using e3, ?_⟩
            simp only [List.map_cons, List.take_succ_cons, putsF, hd, Option.getD_some] at e4 ⊢
            exact e4
      · cases h
    · cases h
/-- a region that draws its order, with literals of bytes -/
theorem mark_any (hK : KnOk P X.G K) (hX : X.Ok w0) (h : Sim w0 X n σ β a w) {m : Nat} (hB : headB ops m = true) {r1 r2 : List Prop × AS} (h1 : mHead K n ops m (ops.toList.take m) σ = some r1) (h2 : aSeq K n ops (ops.toList.drop m) r1.2 = some r2)
    (hp1 : allP r1.1) (hp2 : allP r2.1) (hR : ∀ β' a' w', Sim w0 X n r2.2 β' a' w' → R .normal a' w') : wpAny P .any ops R ops.size (Array.replicate ops.size false) a { w with drawn := w.drawn + 1 } := by
  simp only [headB, Bool.and_eq_true, Nat.ble_eq] at hB
  obtain ⟨⟨⟨⟨hms, hflow⟩, hback⟩, htl0⟩, hseq⟩ := hB
  have htl : m = ops.size ∨ (Region.sinkB .any ops m = true ∧ Region.chainB .any ops m = true) := by
    simp only [Bool.or_eq_true, Bool.and_eq_true, Nat.beq_eq] at htl0
    exact htl0
  obtain ⟨rs, hl, hps, hr1, hspec⟩ := mHead_spec _ _ _ h1
  have hlen : (ops.toList.take m).length = m := by simp; omega
  rw [hlen] at hl
  have hget : ∀ i, i < m → ∃ o d q, ops[i]? = some o ∧ o.dst = some d ∧ d < n ∧ rs[i]? = some q ∧ hOp K n ops m σ.E (putsF σ.F (ops.toList.take i) ((rs.map (·.2)).take i)) o = some q := by
    intro i hi
    have hlt : i < ops.size := by omega
    obtain ⟨d, q, e1, e2, e3, e4⟩ := hspec i ops[i] (by rw [List.getElem?_take, if_pos hi]; simp [hlt])
    rw [List.take_take, Nat.min_eq_left (by omega)] at e4
    exact ⟨ops[i], d, q, by simp [hlt], e1, e2, e3, e4⟩
  have hsome : ∀ k, k ≤ m → ∀ o ∈ ops.toList.take k, o.dst.isSome = true := by
    intro k hk o ho
    obtain ⟨i, hi⟩ := List.mem_iff_getElem?.1 ho
    rw [List.getElem?_take] at hi
    split at hi
    · obtain ⟨o', d, q, e1, e2, _⟩ := hget i (by omega)
      have : o' = o := by
        have : ops.toList[i]? = some o' := by simpa using e1
        rw [this] at hi; cases hi; rfl
      rw [← this, e2]; rfl
    · cases hi
  -- the flow
  have hdist : ∀ i j oi oj, i < m → j < m → ops[i]? = some oi → ops[j]? = some oj → i ≠ j → oi.dst ≠ oj.dst := by
    intro i j oi oj hi hj hoi hoj hij
    have h3 := List.all_eq_true.1 hflow j (List.mem_range.2 hj)
    rw [hoj] at h3
    have h4 := List.all_eq_true.1 h3 i (List.mem_range.2 hi)
    rw [hoi] at h4
    simp only [Bool.and_eq_true, Bool.or_eq_true, Nat.beq_eq, Bool.not_eq_true'] at h4
    rcases h4.1 with h5 | h5
    · exact absurd h5 hij
    · intro e; rw [e] at h5; simp at h5
  have hdep : ∀ i j oi oj t, i < m → j < m → ops[i]? = some oi → ops[j]? = some oj → t ∈ seesT ops oj → oi.dst = some t → i < j ∧ ∃ e ∈ oj.after, e.on = i ∧ Region.binds .any e = true := by
    intro i j oi oj t hi hj hoi hoj ht hd
    have h3 := List.all_eq_true.1 hflow j (List.mem_range.2 hj)
    rw [hoj] at h3
    have h4 := List.all_eq_true.1 h3 i (List.mem_range.2 hi)
    rw [hoi] at h4
    simp only [Bool.and_eq_true] at h4
    have h5 := List.all_eq_true.1 h4.2 t ht
    rw [hd] at h5
    simp only [beq_self_eq_true, Bool.not_true, Bool.false_or, Bool.and_eq_true] at h5
    refine ⟨by simpa using h5.1, ?_⟩
    obtain ⟨e, he, h6⟩ := Array.any_eq_true'.1 h5.2
    simp only [Bool.and_eq_true, Nat.beq_eq] at h6
    exact ⟨e, he, h6.1, h6.2⟩
  let W := w.drew
  have hsim : Sim w0 X n σ β a W := ⟨h.sz, h.df, h.bel.then ((Below.refl _ _).drew), fun s => RepV.keep (.of_below ((Below.refl _ _).drew) fun _ _ h => h) _ _ _ (h.fr s), fun i o ho => (h.own i o ho).keep (.of_below ((Below.refl _ _).drew) fun _ _ h => h) fun _ _ => rfl, h.new, h.inj, h.lt, h.fix, h.hb, h.hE⟩
  let I : Array Bool → Act → World → Prop := fun listed a' w' =>
    a'.tmps.size = n ∧ a'.defers = X.D ∧ Below W.heap.size W w' ∧ (∀ s, (∀ i o, i < m → ops[i]? = some o → o.dst ≠ some s) → a'.tmps.getD s undef = a.tmps.getD s undef) ∧
    (∀ i o d q, i < m → ops[i]? = some o → o.dst = some d → rs[i]? = some q → listed.getD i false = true → RepV w' (OSet X σ.E β) β q.2.t q.2.x (a'.tmps.getD d undef)) ∧
    (∀ i o d, i < m → ops[i]? = some o → isBuild o = true → o.dst = some d → listed.getD i false = true → NewB W w' (a'.tmps.getD d undef))
  have hsum : ops.size = left (Array.replicate ops.size false) m + (ops.size - m) := by
    have : left (Array.replicate ops.size false) m = m := by
      unfold left
      have : (List.range m).filter (fun i => !(Array.replicate ops.size false).getD i false) = List.range m := by
        rw [List.filter_eq_self]
        intro i _
        rw [getD_replicate_false]
        rfl
      rw [this, List.length_range]
    omega
  have hown : ∀ w', Below W.heap.size W w' → ∀ i o, Owns.get σ.E i = some o → OwnRep w' (OSet X σ.E β) β 0 (β i) o := fun w' hb i o ho =>
    (hsim.own i o ho).keep (.of_below hb fun _ _ h => h) fun g hg => hb.block g ((hsim.own i o ho).block_lt hg).2
  have hO : ∀ w', Below W.heap.size W w' → ∀ g, OSet X σ.E β g → g < w'.heap.size := fun w' hb g hg => Nat.lt_of_lt_of_le (hsim.hO hX g hg) hb.size
  suffices hkey : wpAny P .any ops R (left (Array.replicate ops.size false) m + (ops.size - m)) (Array.replicate ops.size false) a W by
    rw [← hsum] at hkey
    exact hkey
  refine wpAny_head hms hback htl I ?_ ?_ _ _ a W rfl ⟨by simp, fun j oj _ hlj => (by rw [getD_replicate_false] at hlj; cases hlj), fun t _ ht => getD_in (by simpa using ht) (getD_replicate_false _ _)⟩ ⟨h.sz, h.df, Below.refl _ _, fun _ _ => rfl, fun i o d q _ _ _ _ hli => (by rw [getD_replicate_false] at hli; cases hli), fun i o d _ _ _ _ hli => by rw [getD_replicate_false] at hli; cases hli⟩
  · -- an operation of the head comes up
    rintro listed a' w' ⟨i1, i2, i3, i4, i5, i6⟩ i him hir
    obtain ⟨hun, o', ho', hdone⟩ := mem_ready.1 hir
    obtain ⟨o, d, q, ho, hd, hdn, hq, hg⟩ := hget i him
    have : o' = o := by rw [ho] at ho'; cases ho'; rfl
    subst this
    have hops : ∀ t ∈ seesT ops o', RepV w' (OSet X σ.E β) β (Frame.get (putsF σ.F (ops.toList.take i) ((rs.map (·.2)).take i)) t).t (Frame.get (putsF σ.F (ops.toList.take i) ((rs.map (·.2)).take i)) t).x (a'.tmps.getD t undef) := fun t ht => by
      by_cases hex : ∃ k ok, k < m ∧ ops[k]? = some ok ∧ ok.dst = some t
      · obtain ⟨k, ok, hkm, hok, hkd⟩ := hex
        obtain ⟨hki, e, he, heon, heb⟩ := hdep k i ok o' t hkm him hok ho ht hkd
        have hlk := hdone e he heb
        rw [heon] at hlk
        obtain ⟨ok', dk, qk, g1, g2, g3, g4, g5⟩ := hget k hkm
        have : ok' = ok := by rw [hok] at g1; cases g1; rfl
        subst this
        have hv := putsF_at (ops.toList.take i) ((rs.map (·.2)).take i) σ.F t k ok' qk.2 (hsome i (by omega)) (by rw [List.getElem?_take, if_pos hki]; simpa using hok) hkd
          (by rw [List.getElem?_take, if_pos hki, List.getElem?_map, g4]; rfl) (fun k' o'' hkk hk' => by
            rw [List.getElem?_take] at hk'
            split at hk'
            · have := hdist k' k o'' ok' (by omega) hkm (by simpa using hk') hok (by omega)
              rw [hkd] at this; exact this
            · cases hk')
        rw [hv]
        exact i5 k ok' t qk hkm hok hkd g4 hlk
      · have hno : ∀ o ∈ ops.toList.take i, o.dst ≠ some t := by
          intro o2 ho2 hd2
          obtain ⟨k, hk⟩ := List.mem_iff_getElem?.1 ho2
          rw [List.getElem?_take] at hk
          split at hk
          · exact hex ⟨k, o2, by omega, by simpa using hk, hd2⟩
          · cases hk
        rw [putsF_other _ _ _ _ (hsome i (by omega)) hno, i4 t fun k ok hk hok hdk => hex ⟨k, ok, hk, hok, hdk⟩]
        exact RepV.keep (.of_below i3 fun _ _ h => h) _ _ _ (hsim.fr t)
    -- what the step leaves
    have hnext : ∀ u w2, Below W.heap.size W w2 → KeepsM w' w2 → RepV w2 (OSet X σ.E β) β q.2.t q.2.x u → (isBuild o' = true → NewB W w2 u) → I (listed.setIfInBounds i true) (a'.put o'.dst u) w2 := by
      intro u w2 hb hk2 hr2 hnew
      rw [hd]
      refine ⟨by rw [Act.put_size]; exact i1, by rw [Act.put_defers]; exact i2, hb, fun s hs => ?_, fun j oj dj qj hj hoj hdj hqj hlj => ?_, fun j oj dj hj hoj hbj hdj hlj => ?_⟩
      · rw [Act.put_get (by rw [i1]; exact hdn), if_neg (fun e => hs i o' him ho (by rw [hd, e]))]
        exact i4 s hs
      · rw [Act.put_get (by rw [i1]; exact hdn)]
        by_cases hji : i = j
        · subst hji
          have : oj = o' := by rw [ho] at hoj; cases hoj; rfl
          subst this
          have : dj = d := by rw [hd] at hdj; cases hdj; rfl
          subst this
          have : qj = q := by rw [hq] at hqj; cases hqj; rfl
          subst this
          rw [if_pos rfl]
          exact hr2
        · have hne : d ≠ dj := fun e => hdist i j o' oj him hj ho hoj hji (by rw [hd, hdj, e])
          rw [if_neg hne]
          rw [getD_set_ne false hji] at hlj
          exact RepV.keepM hk2 _ _ _ (i5 j oj dj qj hj hoj hdj hqj hlj)
      · rw [Act.put_get (by rw [i1]; exact hdn)]
        by_cases hji : i = j
        · subst hji
          have : oj = o' := by rw [ho] at hoj; cases hoj; rfl
          subst this
          have : dj = d := by rw [hd] at hdj; cases hdj; rfl
          subst this
          rw [if_pos rfl]
          exact hnew hbj
        · have hne : d ≠ dj := fun e => hdist i j o' oj him hj ho hoj hji (by rw [hd, hdj, e])
          rw [if_neg hne]
          rw [getD_set_ne false hji] at hlj
          exact (i6 j oj dj hj hoj hbj hdj hlj).keepM hk2
    unfold wpOp
    rw [ho]
    simp only
    have hqp : allP q.1 := hps hp1 q (List.mem_of_getElem? hq)
    cases hmk : markT ops m o' with
    | none =>
      have hg' : gOp K n ops σ.E (putsF σ.F (ops.toList.take i) ((rs.map (·.2)).take i)) o' = some q := by
        unfold hOp at hg
        rw [hmk] at hg
        exact hg
      cases hbd : isBuild o' with
      | false =>
        refine gOp_wp hK (hX.2.2 w' (hsim.bel.then i3)) (hO w' i3) (hown w' i3) hg' hqp i1 hops fun u w2 hb2 hr2 => ?_
        exact hnext u w2 (i3.trans (hb2.mono i3.size)) (.of_below hb2) hr2 (fun h => by rw [hbd] at h; cases h)
      | true =>
        refine build_wp hK (hO w' i3) hg' hbd hqp i1 hops fun u w2 hb2 hr2 hn2 => ?_
        exact hnext u w2 (i3.trans (hb2.mono i3.size)) (.of_below hb2) hr2 (fun _ => hn2.from i3.size)
    | some st =>
      obtain ⟨s, t⟩ := st
      obtain ⟨hop, jb, ob, hjm, hob, hbb, hbt⟩ := markT_spec hmk
      have htm : t ∈ seesT ops o' := by
        unfold seesT
        refine List.mem_append.2 (.inl (List.mem_filterMap.2 ⟨.tmp t, ?_, rfl⟩))
        rw [hop]
        simp [Op.operands]
      obtain ⟨_, e, he, heon, heb⟩ := hdep jb i ob o' t hjm him hob ho htm hbt
      have hlb := hdone e he heb
      rw [heon] at hlb
      have hnb := i6 jb ob t hjm hob hbb hbt hlb
      exact mark_wp hK hmk hg hqp i1 hops i3.size hnb fun u w2 hb2 hk2 hr2 => hnext u w2 (hb2.trans' i3) hk2 hr2 (fun h => by rw [isBuild, hop] at h; cases h)
  · -- the tail
    rintro listed a' w' inv hall ⟨i1, i2, i3, i4, i5, _⟩
    have hlist : listed = (List.replicate m true ++ List.replicate (ops.size - m) false).toArray := by
      apply Array.ext
      · rw [inv.size]; simp; omega
      · intro i h1 h2
        rw [inv.size] at h1
        by_cases him : i < m
        · have := hall i him
          simp only [Array.getD, show i < listed.size by rw [inv.size]; exact h1, dif_pos] at this
          have e : listed[i] = true := this
          rw [e]
          simp [List.getElem_append, him]
        · have := inv.tail i (by omega) h1
          have := getD_both this
          simp only [Array.getD, show i < listed.size by rw [inv.size]; exact h1, dif_pos] at this
          have e : listed[i] = false := this
          rw [e]
          simp [List.getElem_append, him]
    subst hlist
    have hfin : Sim w0 X n r1.2 β a' w' := by
      rw [hr1]
      refine ⟨i1, i2, hsim.bel.then i3, fun s => ?_, hown w' i3, hsim.new, hsim.inj, hsim.lt, hsim.fix, fun s => ?_, hsim.hE⟩
      · show RepV w' (OSet X σ.E β) β (Frame.get (putsF σ.F (ops.toList.take m) (rs.map (·.2))) s).t _ _
        by_cases hex : ∃ k ok, k < m ∧ ops[k]? = some ok ∧ ok.dst = some s
        · obtain ⟨k, ok, hkm, hok, hkd⟩ := hex
          obtain ⟨ok', dk, qk, g1, g2, g3, g4, g5⟩ := hget k hkm
          have : ok' = ok := by rw [hok] at g1; cases g1; rfl
          subst this
          have hv := putsF_at (ops.toList.take m) (rs.map (·.2)) σ.F s k ok' qk.2 (hsome m (Nat.le_refl _)) (by rw [List.getElem?_take, if_pos hkm]; simpa using hok) hkd
            (by rw [List.getElem?_map, g4]; rfl) (fun k' o'' hkk hk' => by
              rw [List.getElem?_take] at hk'
              split at hk'
              · have := hdist k' k o'' ok' (by omega) hkm (by simpa using hk') hok (by omega)
                rw [hkd] at this; exact this
              · cases hk')
          rw [hv]
          exact i5 k ok' s qk hkm hok hkd g4 (hall k hkm)
        · have hno : ∀ o ∈ ops.toList.take m, o.dst ≠ some s := by
            intro o2 ho2 hd2
            obtain ⟨k, hk⟩ := List.mem_iff_getElem?.1 ho2
            rw [List.getElem?_take] at hk
            split at hk
            · exact hex ⟨k, o2, by omega, by simpa using hk, hd2⟩
            · cases hk
          rw [putsF_other _ _ _ _ (hsome m (Nat.le_refl _)) hno, i4 s fun k ok hk hok hdk => hex ⟨k, ok, hk, hok, hdk⟩]
          exact RepV.keep (.of_below i3 fun _ _ h => h) _ _ _ (hsim.fr s)
      · show (Frame.get (putsF σ.F (ops.toList.take m) (rs.map (·.2))) s).bound ≤ σ.nx
        have hbd : ∀ k, k ≤ m → ∀ s, (Frame.get (putsF σ.F (ops.toList.take k) ((rs.map (·.2)).take k)) s).bound ≤ σ.nx := by
          intro k
          induction k with
          | zero => intro _ s; simpa [putsF] using hsim.hb s
          | succ k ih =>
            intro hk s
            obtain ⟨o, d, q, e1, e2, e3, e4, e5⟩ := hget k (by omega)
            have hb := hOp_bound e5 (ih (by omega)) (fun i o ho => ⟨hsim.lt i o ho, hsim.hE i o ho⟩) fun t τ ht => (hK.t.lay t τ ht).data
            by_cases hsd : o.dst = some s
            · have hv := putsF_at (ops.toList.take (k + 1)) ((rs.map (·.2)).take (k + 1)) σ.F s k o q.2 (hsome (k + 1) hk) (by rw [List.getElem?_take, if_pos (by omega)]; simpa using e1) hsd
                (by rw [List.getElem?_take, if_pos (by omega), List.getElem?_map, e4]; rfl) (fun k' o'' hkk hk' => by
                  rw [List.getElem?_take] at hk'
                  split at hk'
                  · omega
                  · cases hk')
              rw [hv]
              exact hb
            · by_cases hex : ∃ k' ok, k' < k ∧ ops[k']? = some ok ∧ ok.dst = some s
              · obtain ⟨k', ok, hk', hok, hkd⟩ := hex
                obtain ⟨ok', dk, qk, g1, g2, g3, g4, g5⟩ := hget k' (by omega)
                have : ok' = ok := by rw [hok] at g1; cases g1; rfl
                subst this
                have both : ∀ j, k' < j → j ≤ m → Frame.get (putsF σ.F (ops.toList.take j) ((rs.map (·.2)).take j)) s = qk.2 := fun j hj hjm =>
                  putsF_at _ _ σ.F s k' ok' qk.2 (hsome j hjm) (by rw [List.getElem?_take, if_pos hj]; simpa using hok) hkd
                    (by rw [List.getElem?_take, if_pos hj, List.getElem?_map, g4]; rfl) (fun k2 o'' hkk hk2 => by
                      rw [List.getElem?_take] at hk2
                      split at hk2
                      · have := hdist k2 k' o'' ok' (by omega) (by omega) (by simpa using hk2) hok (by omega)
                        rw [hkd] at this; exact this
                      · cases hk2)
                rw [both (k + 1) (by omega) hk, ← both k hk' (by omega)]
                exact ih (by omega) s
              · have hno : ∀ o ∈ ops.toList.take (k + 1), o.dst ≠ some s := by
                  intro o2 ho2 hd2
                  obtain ⟨k2, hk2⟩ := List.mem_iff_getElem?.1 ho2
                  rw [List.getElem?_take] at hk2
                  split at hk2
                  · have hk2' : ops[k2]? = some o2 := by simpa using hk2
                    by_cases hkk : k2 = k
                    · subst hkk
                      rw [e1] at hk2'
                      cases hk2'
                      exact hsd hd2
                    · exact hex ⟨k2, o2, by omega, hk2', hd2⟩
                  · cases hk2
                rw [putsF_other _ _ _ _ (hsome (k + 1) hk) hno]
                exact hsim.hb s
        have := hbd m (Nat.le_refl _) s
        rwa [List.take_of_length_le (l := rs.map (·.2)) (by simp [hl])] at this
    have hlt : (ops.toList.drop m).length = ops.size - m := by simp
    have := wpAny_of_seq (P := P) (md := .any) (Q' := R) (ops := ops) (ops.toList.drop m) m (List.replicate m true ++ List.replicate (ops.size - m) false).toArray a' w' (fun j => by simp [List.getElem?_drop]) (by rw [hlt]; exact hseq) (aSeq_wp hK hX _ hfin h2 hp2 hR)
    rwa [hlt] at this
end
end Go.Proofs.YtbbeldmcdjjnbaaDoor
namespace Go.Proofs.YtbbeldmcdjjnbaaDoor
open Go Go.RowKit
set_option linter.unusedSimpArgs false
set_option linter.unusedVariables false

inductive NOp where
  | pure (d : Nat) (q : List Prop × V)
  | var (d : Nat) (τ : Ty)
  | set (s : Nat) (τ : Ty) (p : List Prop) (y : τ.T)
def condsOf : List NOp → List Prop
  | [] => []
  | .pure _ q :: rs => q.1 ++ condsOf rs
  | .var _ _ :: rs => condsOf rs
  | .set _ _ p _ :: rs => p ++ condsOf rs
/-- what quiet operations know -/
def NOp.putP : NOp → Frame → Frame
  | .pure d q, F => (d, q.2) :: F
  | .var d _, F => (d, ⟨.junk, ()⟩) :: F
  | .set _ _ _ _, F => F
def putP : Frame → List NOp → Frame
  | F, [] => F
  | F, r :: rs => putP (r.putP F) rs
def NOp.vars : NOp → List (Nat × Ty) → List (Nat × Ty)
  | .var d τ, vs => (d, τ) :: vs
  | _, vs => vs
/-- what is known in the end -/
def fins : AS → List NOp → AS
  | σ, [] => σ
  | ⟨F, E, nx⟩, .pure d q :: rs => fins ⟨(d, q.2) :: F, E, nx⟩ rs
  | ⟨F, E, nx⟩, .var d _ :: rs => fins ⟨(d, ⟨.junk, ()⟩) :: F, E, nx⟩ rs
  | ⟨F, E, nx⟩, .set s τ _ y :: rs => fins ⟨(s, ⟨.optr τ, ⟨nx, τ, .here⟩⟩) :: F, (nx, some (.box τ y)) :: E, nx + 1⟩ rs
def vget : List (Nat × Ty) → Nat → Option Ty
  | [], _ => none
  | (d, τ) :: r, s => bif Nat.beq d s then some τ else vget r s
noncomputable def nOne (K : Kn) (n : Nat) (ops : Array Oper) (E : Owns) (o : Oper) (F : Frame) (vs : List (Nat × Ty)) : Option NOp :=
  match o.op, o.dst, o.guard with
  | .alloc t, some d, none => match tget K.T t with
    | some τ => if Nat.blt d n then some (.var d τ) else none
    | none => none
  | .store t (.tmp s) x, none, none => match vget vs s with
    | some τ => if tis K.T t τ then (match coe τ (strip (evO F x)).2 with
      | some y => some (.set s τ (strip (evO F x)).1 y)
      | none => none) else none
    | none => none
  | _, some d, _ => if Nat.blt d n then (match gOp K n ops E F o with
    | some (p, ⟨t, x⟩) => some (.pure d (p, ⟨t, x⟩))
    | none => none) else none
  | _, _, _ => none
noncomputable def nHead (K : Kn) (n : Nat) (ops : Array Oper) (E : Owns) : List Oper → Frame → List (Nat × Ty) → Option (List NOp)
  | [], _, _ => some []
  | o :: l, F, vs => match nOne K n ops E o F vs with
    | some r => match nHead K n ops E l (r.putP F) (r.vars vs) with
      | some rs => some (r :: rs)
      | none => none
    | none => none
def setSlot (o : Oper) : Option Nat := match o.op with
  | .store _ (.tmp s) _ => some s
  | _ => none
def flowN (ops : Array Oper) (m : Nat) : Bool :=
  (List.range m).all fun j => match ops[j]? with
    | some oj => (List.range m).all fun i => match ops[i]? with
      | some oi => (Nat.beq i j || (!(oi.dst.isSome && oi.dst == oj.dst) && !((setSlot oi).isSome && setSlot oi == setSlot oj))) && ((seesT ops oj).all fun t => !(oi.dst == some t) || (Nat.blt i j && oj.after.any fun e => Nat.beq e.on i && Region.binds .any e))
      | none => false
    | none => false
def headN (ops : Array Oper) (m : Nat) : Bool :=
  Nat.ble m ops.size && flowN ops m && backB ops && (Nat.beq m ops.size || (Region.sinkB .any ops m && Region.chainB .any ops m)) &&
    Region.seqB .any ops (ops.size - m) m (List.replicate m true ++ List.replicate (ops.size - m) false).toArray
def junks : List Oper → Frame → Frame
  | [], F => F
  | o :: l, F => match o.dst with
    | some d => junks l ((d, ⟨.junk, ()⟩) :: F)
    | none => junks l F

section
variable {P : Program} {K : Kn} {w0 : World} {X : Ownr} {n : Nat} {σ : AS} {β : Nat → Value} {a : Act} {w : World} {R : Exit → Act → World → Prop} {ops : Array Oper}
theorem nOne_cases {E : Owns} {o : Oper} {F : Frame} {vs : List (Nat × Ty)} {r : NOp} (h : nOne K n ops E o F vs = some r) :
    (∃ d q, r = .pure d q ∧ o.dst = some d ∧ d < n ∧ gOp K n ops E F o = some q) ∨
    (∃ t d τ, r = .var d τ ∧ o.op = .alloc t ∧ o.dst = some d ∧ o.guard = none ∧ d < n ∧ tget K.T t = some τ) ∨
    (∃ t s x τ y, r = .set s τ (strip (evO F x)).1 y ∧ o.op = .store t (.tmp s) x ∧ o.dst = none ∧ o.guard = none ∧ vget vs s = some τ ∧ tis K.T t τ = true ∧ coe τ (strip (evO F x)).2 = some y) := by
  unfold nOne at h
  split at h
  · rename_i t d h1 h2 h3
    split at h
    · rename_i τ h4
      split at h
      · rename_i h5
        cases h
        exact .inr (.inl ⟨t, d, τ, rfl, h1, h2, h3, by simpa using h5, h4⟩)
      · cases h
    · cases h
  · rename_i t s x h1 h2 h3
    split at h
    · rename_i τ h4
      split at h
      · rename_i h5
        split at h
        · rename_i y h6
          cases h
          exact .inr (.inr ⟨t, s, x, τ, y, rfl, h1, h2, h3, h4, h5, h6⟩)
        · cases h
      · cases h
    · cases h
  · rename_i d h1 _ _
    split at h
    · rename_i h5
      split at h
      · rename_i p t x h6
        cases h
        exact .inl ⟨_, _, rfl, by assumption, by simpa using h5, h6⟩
      · cases h
    · cases h
  · cases h
def varsOf : List (Nat × Ty) → List NOp → List (Nat × Ty)
  | vs, [] => vs
  | vs, r :: rs => varsOf (r.vars vs) rs
theorem nHead_spec {E : Owns} : ∀ (l : List Oper) (F : Frame) (vs : List (Nat × Ty)) (rs : List NOp), nHead K n ops E l F vs = some rs → rs.length = l.length ∧
    ∀ i o, l[i]? = some o → ∃ r, rs[i]? = some r ∧ nOne K n ops E o (putP F (rs.take i)) (varsOf vs (rs.take i)) = some r
  | [], F, vs, rs, h => by
    cases h
    exact ⟨rfl, fun i o hi => by simp at hi⟩
  | o :: l, F, vs, rs, h => by
    simp only [nHead] at h
    split at h
    · rename_i r h1
      split at h
      · rename_i rs' h2
        cases h
        obtain ⟨g1, g2⟩ := nHead_spec l _ _ _ h2
        refine ⟨by simp [g1], fun i o' hi => ?_⟩
        cases i with
        | zero => cases hi; exact ⟨r, rfl, h1⟩
        | succ i =>
          obtain ⟨r', e1, e2⟩ := g2 i o' (by simpa using hi)
          exact ⟨r', by simpa using e1, by simpa [putP, varsOf] using e2⟩
      · cases h
    · cases h
theorem condsOf_all {rs : List NOp} (h : allP (condsOf rs)) : (∀ (i : Nat) d q, rs[i]? = some (NOp.pure d q) → allP q.1) ∧ ∀ (i : Nat) s τ p y, rs[i]? = some (NOp.set s τ p y) → allP p := by
  induction rs with
  | nil => exact ⟨fun i d q h => by simp at h, fun i s τ p y h => by simp at h⟩
  | cons r rs ih =>
    have key : allP (condsOf rs) ∧ (∀ d q, r = NOp.pure d q → allP q.1) ∧ ∀ s τ p y, r = NOp.set s τ p y → allP p := by
      cases r with
      | pure d q =>
        simp only [condsOf, allP_append] at h
        exact ⟨h.2, fun _ _ e => by cases e; exact h.1, fun _ _ _ _ e => by cases e⟩
      | var d τ => exact ⟨h, fun _ _ e => by (cases e), fun _ _ _ _ e => by cases e⟩
      | set s τ p y =>
        simp only [condsOf, allP_append] at h
        exact ⟨h.2, fun _ _ e => by (cases e), fun _ _ _ _ e => by cases e; exact h.1⟩
    obtain ⟨i1, i2⟩ := ih key.1
    refine ⟨fun i d q hi => ?_, fun i s τ p y hi => ?_⟩
    · cases i with
      | zero => cases hi; exact key.2.1 _ _ rfl
      | succ i => exact i1 i d q (by simpa using hi)
    · cases i with
      | zero => cases hi; exact key.2.2 _ _ _ _ rfl
      | succ i => exact i2 i s τ p y (by simpa using hi)
def NOp.dst : NOp → Option Nat
  | .pure d _ => some d
  | .var d _ => some d
  | .set _ _ _ _ => none
def NOp.v : NOp → V
  | .pure _ q => q.2
  | _ => ⟨.junk, ()⟩
theorem putP_other : ∀ (rs : List NOp) (F : Frame) (t : Nat), (∀ r ∈ rs, r.dst ≠ some t) → Frame.get (putP F rs) t = Frame.get F t
  | [], _, _, _ => rfl
  | r :: rs, F, t, h => by
    simp only [putP]
    rw [putP_other rs _ t fun r hr => h r (by simp [hr])]
    have h1 := h r (by simp)
    cases r with
    | pure d q => simp only [NOp.putP]; rw [Frame.get_cons, if_neg (fun e => h1 (by rw [e]; rfl))]
    | var d τ => simp only [NOp.putP]; rw [Frame.get_cons, if_neg (fun e => h1 (by rw [e]; rfl))]
    | set => rfl
theorem putP_at : ∀ (rs : List NOp) (F : Frame) (t k : Nat) (r : NOp), rs[k]? = some r → r.dst = some t → (∀ k' r', k < k' → rs[k']? = some r' → r'.dst ≠ some t) → Frame.get (putP F rs) t = r.v
  | r :: rs, F, t, 0, r', hk, hd, hno => by
    cases hk
    simp only [putP]
    rw [putP_other rs _ t fun r'' hr => by
      obtain ⟨k', hk'⟩ := List.mem_iff_getElem?.1 hr
      exact hno (k' + 1) r'' (by omega) (by simpa using hk')]
    cases r with
    | pure d q => cases hd; simp only [NOp.putP]; rw [Frame.get_cons, if_pos rfl]; rfl
    | var d τ => cases hd; simp only [NOp.putP]; rw [Frame.get_cons, if_pos rfl]; rfl
    | set => cases hd
  | r :: rs, F, t, k + 1, r', hk, hd, hno => by
    simp only [putP]
    exact putP_at rs _ t k r' (by simpa using hk) hd fun k' r'' hkk hk' => hno (k' + 1) r'' (by omega) (by simpa using hk')
  | [], _, _, _, _, hk, _, _ => by simp at hk
theorem vget_varsOf : ∀ (rs : List NOp) (vs : List (Nat × Ty)) (s : Nat) (τ : Ty), vget (varsOf vs rs) s = some τ → vget vs s = some τ ∨ ∃ k : Nat, rs[k]? = some (NOp.var s τ)
  | [], vs, s, τ, h => .inl h
  | r :: rs, vs, s, τ, h => by
    rcases vget_varsOf rs _ s τ h with h1 | ⟨k, hk⟩
    · cases r with
      | var d υ =>
        simp only [NOp.vars, vget, cond_eq_ite, Nat.beq_eq] at h1
        by_cases e : d = s
        · rw [if_pos e] at h1
          cases h1
          exact .inr ⟨0, by rw [e]; rfl⟩
        · rw [if_neg e] at h1
          exact .inl h1
      | _ => exact .inl h1
    · exact .inr ⟨k + 1, by simpa using hk⟩
def O2 (X : Ownr) (E : Owns) (β : Nat → Value) (rs : List NOp) (listed : Array Bool) (a : Act) (g : Nat) : Prop :=
  OSet X E β g ∨ ∃ i d τ, rs[i]? = some (NOp.var d τ) ∧ listed.getD i false = true ∧ blockOf (a.tmps.getD d undef) = some g
structure NInv (X : Ownr) (n : Nat) (E : Owns) (β : Nat → Value) (ops : Array Oper) (rs : List NOp) (a : Act) (W : World) (listed : Array Bool) (a' : Act) (w' : World) : Prop where
  sz : a'.tmps.size = n
  df : a'.defers = X.D
  bel : Below W.heap.size W w'
  unt : ∀ s, (∀ i o, i < rs.length → ops[i]? = some o → o.dst ≠ some s) → a'.tmps.getD s undef = a.tmps.getD s undef
  pur : ∀ (i : Nat) d q, rs[i]? = some (NOp.pure d q) → listed.getD i false = true → RepV w' (O2 X E β rs listed a') β q.2.t q.2.x (a'.tmps.getD d undef)
  var : ∀ (i : Nat) d τ, rs[i]? = some (NOp.var d τ) → listed.getD i false = true → ∃ g cs ty v, a'.tmps.getD d undef = .pointer (some ⟨g, 0, none⟩) ∧ W.heap.size ≤ g ∧ w'.heap[g]? = some (.cells (List.toArray cs) ty (0, 0)) ∧
    RepC w' (O2 X E β rs listed a') τ v cs ∧ ∀ (j : Nat) p y, rs[j]? = some (NOp.set d τ p y) → listed.getD j false = true → v = y
  dis : ∀ (i j : Nat) d e τ υ g, rs[i]? = some (NOp.var d τ) → rs[j]? = some (NOp.var e υ) → listed.getD i false = true → listed.getD j false = true → i ≠ j → blockOf (a'.tmps.getD d undef) = some g → blockOf (a'.tmps.getD e undef) ≠ some g
  ord : ∀ j o, j < rs.length → ops[j]? = some o → listed.getD j false = true → ∀ e ∈ o.after, Region.binds .any e = true → listed.getD e.on false = true
/-- what a plan is -/
structure NPlan (K : Kn) (n : Nat) (ops : Array Oper) (E : Owns) (F : Frame) (rs : List NOp) : Prop where
  get : ∀ (i : Nat) r, rs[i]? = some r → ∃ o, ops[i]? = some o ∧ nOne K n ops E o (putP F (rs.take i)) (varsOf [] (rs.take i)) = some r
  dist : ∀ (i j : Nat) ri rj d, rs[i]? = some ri → rs[j]? = some rj → i ≠ j → ri.dst = some d → rj.dst ≠ some d
  dset : ∀ (i j : Nat) s τ p y υ q z, rs[i]? = some (NOp.set s τ p y) → rs[j]? = some (NOp.set s υ q z) → i = j
  dep : ∀ (i j : Nat) ri oj t, rs[i]? = some ri → j < rs.length → ops[j]? = some oj → t ∈ seesT ops oj → ri.dst = some t → i < j ∧ ∃ e ∈ oj.after, e.on = i ∧ Region.binds .any e = true
theorem nOne_dst {E : Owns} {o : Oper} {F : Frame} {vs : List (Nat × Ty)} {r : NOp} (h : nOne K n ops E o F vs = some r) : r.dst = o.dst := by
  rcases nOne_cases h with ⟨d, q, rfl, h1, _⟩ | ⟨t, d, τ, rfl, _, h1, _⟩ | ⟨t, s, x, τ, y, rfl, _, h1, _⟩ <;> rw [h1] <;> rfl
theorem nOne_set {E : Owns} {o : Oper} {F : Frame} {vs : List (Nat × Ty)} {s : Nat} {τ : Ty} {p : List Prop} {y : τ.T} (h : nOne K n ops E o F vs = some (.set s τ p y)) : setSlot o = some s := by
  rcases nOne_cases h with ⟨d, q, h0, _⟩ | ⟨t, d, υ, h0, _⟩ | ⟨t, s', x, υ, z, h0, h1, _⟩
  · cases h0
  · cases h0
  · cases h0; unfold setSlot; rw [h1]
theorem nPlan_of {m : Nat} (hB : headN ops m = true) {E : Owns} {F : Frame} {rs : List NOp} (h1 : nHead K n ops E (ops.toList.take m) F [] = some rs) : rs.length = m ∧ NPlan K n ops E F rs := by
  simp only [headN, Bool.and_eq_true, Nat.ble_eq] at hB
  obtain ⟨⟨⟨⟨hms, hflow⟩, hback⟩, htl0⟩, hseq⟩ := hB
  obtain ⟨hl, hspec⟩ := nHead_spec _ _ _ _ h1
  have hlen : (ops.toList.take m).length = m := by simp; omega
  rw [hlen] at hl
  have hget : ∀ (i : Nat) r, rs[i]? = some r → ∃ o, ops[i]? = some o ∧ nOne K n ops E o (putP F (rs.take i)) (varsOf [] (rs.take i)) = some r := by
    intro i r hi
    have hir := (List.getElem?_eq_some_iff.1 hi).1
    have hlt : i < ops.size := by omega
    obtain ⟨r', e1, e2⟩ := hspec i ops[i] (by rw [List.getElem?_take, if_pos (by omega)]; simp [hlt])
    rw [hi] at e1
    cases e1
    exact ⟨ops[i], by simp [hlt], e2⟩
  have hpair : ∀ i j oi oj, i < m → j < m → ops[i]? = some oi → ops[j]? = some oj → (i = j ∨ ((∀ d, oi.dst = some d → oj.dst ≠ some d) ∧ ∀ s, setSlot oi = some s → setSlot oj ≠ some s)) ∧
      ∀ t ∈ seesT ops oj, oi.dst = some t → i < j ∧ ∃ e ∈ oj.after, e.on = i ∧ Region.binds .any e = true := by
    intro i j oi oj hi hj hoi hoj
    have h3 := List.all_eq_true.1 hflow j (List.mem_range.2 hj)
    rw [hoj] at h3
    have h4 := List.all_eq_true.1 h3 i (List.mem_range.2 hi)
    rw [hoi] at h4
    simp only [Bool.and_eq_true] at h4
    refine ⟨?_, fun t ht hd => ?_⟩
    · have h5 := h4.1
      simp only [Bool.or_eq_true, Nat.beq_eq, Bool.and_eq_true, Bool.not_eq_true'] at h5
      rcases h5 with h5 | ⟨h5, h6⟩
      · exact .inl h5
      · refine .inr ⟨fun d e1 e2 => ?_, fun s e1 e2 => ?_⟩
        · rw [e1, e2] at h5; simp at h5
        · rw [e1, e2] at h6; simp at h6
    · have h5 := List.all_eq_true.1 h4.2 t ht
      rw [hd] at h5
      simp only [beq_self_eq_true, Bool.not_true, Bool.false_or, Bool.and_eq_true] at h5
      refine ⟨by simpa using h5.1, ?_⟩
      obtain ⟨e, he, h6⟩ := Array.any_eq_true'.1 h5.2
      simp only [Bool.and_eq_true, Nat.beq_eq] at h6
      exact ⟨e, he, h6.1, h6.2⟩
  refine ⟨hl, hget, ?_, ?_, ?_⟩
  · intro i j ri rj d hi hj hij hd hd'
    obtain ⟨oi, e1, e2⟩ := hget i ri hi
    obtain ⟨oj, e3, e4⟩ := hget j rj hj
    have hi' := (List.getElem?_eq_some_iff.1 hi).1
    have hj' := (List.getElem?_eq_some_iff.1 hj).1
    rcases (hpair i j oi oj (by omega) (by omega) e1 e3).1 with h5 | h5
    · exact hij h5
    · exact h5.1 d (by rw [← nOne_dst e2, hd]) (by rw [← nOne_dst e4, hd'])
  · intro i j s τ p y υ q z hi hj
    obtain ⟨oi, e1, e2⟩ := hget i _ hi
    obtain ⟨oj, e3, e4⟩ := hget j _ hj
    have hi' := (List.getElem?_eq_some_iff.1 hi).1
    have hj' := (List.getElem?_eq_some_iff.1 hj).1
    rcases (hpair i j oi oj (by omega) (by omega) e1 e3).1 with h5 | h5
    · exact h5
    · exact absurd (nOne_set e4) (h5.2 s (nOne_set e2))
  · intro i j ri oj t hi hj hoj ht hd
    obtain ⟨oi, e1, e2⟩ := hget i ri hi
    have hi' := (List.getElem?_eq_some_iff.1 hi).1
    exact (hpair i j oi oj (by omega) (by omega) e1 hoj).2 t ht (by rw [← nOne_dst e2, hd])
/-- what an operation of the plan sees -/
theorem NInv.sees {E : Owns} {F : Frame} {rs : List NOp} {W : World} {listed : Array Bool} {a' : Act} {w' : World} (hp : NPlan K n ops E F rs) (hI : NInv X n E β ops rs a W listed a' w') (hF : ∀ t, RepV W (OSet X E β) β (Frame.get F t).t (Frame.get F t).x (a.tmps.getD t undef))
    (hO : ∀ w', Below W.heap.size W w' → ∀ listed a', NInv X n E β ops rs a W listed a' w' → ∀ g, g < W.heap.size → O2 X E β rs listed a' g → OSet X E β g)
    {i : Nat} {o : Oper} (hi : i < rs.length) (ho : ops[i]? = some o) (hdone : ∀ e ∈ o.after, Region.binds .any e = true → listed.getD e.on false = true) :
    ∀ t ∈ seesT ops o, RepV w' (O2 X E β rs listed a') β (Frame.get (putP F (rs.take i)) t).t (Frame.get (putP F (rs.take i)) t).x (a'.tmps.getD t undef) := by
  intro t ht
  by_cases hex : ∃ (k : Nat) (rk : NOp), rs[k]? = some rk ∧ rk.dst = some t
  · obtain ⟨k, rk, hk, hkd⟩ := hex
    obtain ⟨hki, e, he, heon, heb⟩ := hp.dep k i rk o t hk hi ho ht hkd
    have hlk := hdone e he heb
    rw [heon] at hlk
    have hv := putP_at (rs.take i) F t k rk (by rw [List.getElem?_take, if_pos hki]; exact hk) hkd (fun k' r' hkk hk' hd' => by
      rw [List.getElem?_take] at hk'
      split at hk'
      · exact hp.dist k k' rk r' t hk hk' (by omega) hkd hd'
      · cases hk')
    rw [hv]
    cases rk with
    | pure d q => cases hkd; exact hI.pur k _ q hk hlk
    | var d τ => trivial
    | set => cases hkd
  · have hno : ∀ r ∈ rs, r.dst ≠ some t := fun r hr hd => by
      obtain ⟨k, hk⟩ := List.mem_iff_getElem?.1 hr
      exact hex ⟨k, r, hk, hd⟩
    rw [putP_other _ _ _ fun r hr => hno r (List.mem_of_mem_take hr)]
    rw [hI.unt t fun k ok hk hok hd => by
      obtain ⟨o', e1, e2⟩ := hp.get k rs[k] (List.getElem?_eq_getElem hk)
      rw [hok] at e1
      cases e1
      exact hno rs[k] (List.getElem_mem hk) (by rw [nOne_dst e2, hd])]
    exact RepV.keep (.of_below hI.bel fun g hg h => hO w' hI.bel listed a' hI g hg h) _ _ _ (hF t)
theorem NInv.O2_old {E : Owns} {rs : List NOp} {W : World} {listed : Array Bool} {a' : Act} {w' : World} (hI : NInv X n E β ops rs a W listed a' w') {g : Nat} (hg : g < W.heap.size) (h : O2 X E β rs listed a' g) : OSet X E β g := by
  rcases h with h | ⟨i, d, τ, h1, h2, h3⟩
  · exact h
  · obtain ⟨g', cs, ty, v, e1, e2, _⟩ := hI.var i d τ h1 h2
    rw [e1] at h3
    have : g' = g := by simpa [blockOf] using h3
    omega
theorem NInv.O2_lt {E : Owns} {rs : List NOp} {W : World} {listed : Array Bool} {a' : Act} {w' : World} (hI : NInv X n E β ops rs a W listed a' w') (hX : ∀ g, OSet X E β g → g < W.heap.size) {g : Nat} (h : O2 X E β rs listed a' g) : g < w'.heap.size := by
  rcases h with h | ⟨i, d, τ, h1, h2, h3⟩
  · exact Nat.lt_of_lt_of_le (hX g h) hI.bel.size
  · obtain ⟨g', cs, ty, v, e1, e2, e3, _⟩ := hI.var i d τ h1 h2
    rw [e1] at h3
    have : g' = g := by simpa [blockOf] using h3
    subst this
    exact (Array.getElem?_eq_some_iff.1 e3).1
theorem NInv.step (hK : KnOk P X.G K) {E : Owns} {F : Frame} {rs : List NOp} {W : World} {listed : Array Bool} {a' : Act} {w' : World} (hG : ∀ w', Below W.heap.size W w' → X.G w') (hp : NPlan K n ops E F rs) (hc : allP (condsOf rs)) (hI : NInv X n E β ops rs a W listed a' w')
    (hF : ∀ t, RepV W (OSet X E β) β (Frame.get F t).t (Frame.get F t).x (a.tmps.getD t undef)) (hXO : ∀ g, OSet X E β g → g < W.heap.size) (hown : ∀ i o, Owns.get E i = some o → OwnRep W (OSet X E β) β 0 (β i) o)
    {i : Nat} {o : Oper} {r : NOp} (hr : rs[i]? = some r) (ho : ops[i]? = some o) (hun : listed.getD i false = false) (hdone : ∀ e ∈ o.after, Region.binds .any e = true → listed.getD e.on false = true) :
    wpOp P ops R i (NInv X n E β ops rs a W (listed.setIfInBounds i true)) a' w' := by
  have hir := (List.getElem?_eq_some_iff.1 hr).1
  obtain ⟨o', ho', hone⟩ := hp.get i r hr
  have : o' = o := by rw [ho] at ho'; cases ho'; rfl
  subst this
  have hsees := hI.sees hp hF (fun w' _ l a'' hI' g hg h => hI'.O2_old hg h) hir ho hdone
  have hown2 : ∀ j p, Owns.get E j = some p → OwnRep w' (O2 X E β rs listed a') β 0 (β j) p := fun j p hj => (hown j p hj).keep (.of_below hI.bel fun g hg h => hI.O2_old hg h) fun g hg => hI.bel.block g ((hown j p hj).block_lt hg).2
  have hO2 : ∀ g, O2 X E β rs listed a' g → g < w'.heap.size := fun g hg => hI.O2_lt hXO hg
  have hord : ∀ j o, j < rs.length → ops[j]? = some o → (listed.setIfInBounds i true).getD j false = true → ∀ e ∈ o.after, Region.binds .any e = true → (listed.setIfInBounds i true).getD e.on false = true := fun j oj hj hoj hlj e he hb => by
    by_cases hij : i = j
    · subst hij
      rw [ho] at hoj
      cases hoj
      exact getD_set_true (hdone e he hb)
    · rw [getD_set_ne false hij] at hlj
      exact getD_set_true (hI.ord j oj hj hoj hlj e he hb)
  unfold wpOp
  rw [ho]
  simp only
  rcases nOne_cases hone with ⟨d, q, rfl, hd, hdn, hg⟩ | ⟨t, d, τ, rfl, hop, hd, hgd, hdn, ht⟩ | ⟨t, s, x, τ, y, rfl, hop, hd, hgd, hvs, ht, hy⟩
  · -- quiet
    refine gOp_wp hK (hG w' hI.bel) hO2 hown2 hg ((condsOf_all hc).1 i d q hr) hI.sz hsees fun u w2 hb2 hr2 => ?_
    have hb : Below W.heap.size W w2 := hI.bel.trans (hb2.mono hI.bel.size)
    rw [hd]
    have hslot : ∀ e, (a'.put (some d) u).tmps.getD e undef = if d = e then u else a'.tmps.getD e undef := fun e => Act.put_get (by rw [hI.sz]; exact hdn)
    have hvd : ∀ (k : Nat) e υ, rs[k]? = some (NOp.var e υ) → d ≠ e ∧ i ≠ k := fun k e υ hk => by
      have hik : i ≠ k := fun e' => by subst e'; rw [hr] at hk; cases hk
      exact ⟨fun e' => hp.dist i k _ _ d hr hk hik rfl (by rw [e']; rfl), hik⟩
    have hsub : ∀ g, O2 X E β rs (listed.setIfInBounds i true) (a'.put (some d) u) g → O2 X E β rs listed a' g := fun g hg' => by
      rcases hg' with h1 | ⟨k, e, υ, h1, h2, h3⟩
      · exact .inl h1
      · obtain ⟨h4, h5⟩ := hvd k e υ h1
        rw [getD_set_ne false h5] at h2
        rw [hslot, if_neg h4] at h3
        exact .inr ⟨k, e, υ, h1, h2, h3⟩
    have hkeep : Keeps w' w2 (O2 X E β rs listed a') (O2 X E β rs (listed.setIfInBounds i true) (a'.put (some d) u)) := .of_below hb2 fun g _ h => hsub g h
    refine ⟨by rw [Act.put_size]; exact hI.sz, by rw [Act.put_defers]; exact hI.df, hb, fun s hs => ?_, fun k e q' hk hl => ?_, fun k e υ hk hl => ?_, fun k l e e' υ υ' g hk hl hlk hll hkl h1 => ?_, hord⟩
    · rw [hslot, if_neg (fun e => hs i o' hir ho (by rw [hd, e]))]
      exact hI.unt s hs
    · by_cases hik : i = k
      · subst hik
        rw [hr] at hk
        cases hk
        rw [hslot, if_pos rfl]
        exact RepV.keep ⟨Nat.le_refl _, fun _ _ _ => rfl, fun g _ h => hsub g h⟩ _ _ _ hr2
      · rw [getD_set_ne false hik] at hl
        rw [hslot, if_neg (fun e' => hp.dist i k _ _ d hr hk hik rfl (by rw [e']; rfl))]
        exact RepV.keep hkeep _ _ _ (hI.pur k e q' hk hl)
    · obtain ⟨h4, h5⟩ := hvd k e υ hk
      rw [getD_set_ne false h5] at hl
      obtain ⟨g, cs, ty, v, e1, e2, e3, e4, e5⟩ := hI.var k e υ hk hl
      refine ⟨g, cs, ty, v, by rw [hslot, if_neg h4]; exact e1, e2, (hb2.block g (Array.getElem?_eq_some_iff.1 e3).1).trans e3, RepC.keep hkeep _ _ _ e4, fun j p z hj hlj => e5 j p z hj ?_⟩
      rwa [getD_set_ne false (fun e' => by subst e'; rw [hr] at hj; cases hj)] at hlj
    · obtain ⟨h4, h5⟩ := hvd k e υ hk
      obtain ⟨h6, h7⟩ := hvd l e' υ' hl
      rw [getD_set_ne false h5] at hlk
      rw [getD_set_ne false h7] at hll
      rw [hslot, if_neg h4] at h1
      rw [hslot, if_neg h6]
      exact hI.dis k l e e' υ υ' g hk hl hlk hll hkl h1
  · -- a new variable
    have hl := hK.t.lay _ _ ht
    obtain ⟨inf, z, hi, _, hz, hzc, _⟩ := hl.info
    simp only [Region.wanted, hgd, if_true]
    refine .inl (wp_run (u := .pointer (some ⟨w'.heap.size, 0, none⟩)) (w' := w'.alloc (.cells (zcells τ).toArray t)) ?_ ?_)
    · unfold execOp
      simp [hop, Instr.alloc, zeroValue, typeInfo, hi, hz, newVar, newRow, hzc]
    rw [hd]
    have hb2 := below_alloc w' (.cells (zcells τ).toArray t)
    have hb : Below W.heap.size W (w'.alloc (.cells (zcells τ).toArray t)) := hI.bel.trans (hb2.mono hI.bel.size)
    have hslot : ∀ e, (a'.put (some d) (.pointer (some ⟨w'.heap.size, 0, none⟩))).tmps.getD e undef = if d = e then .pointer (some ⟨w'.heap.size, 0, none⟩) else a'.tmps.getD e undef := fun e => Act.put_get (by rw [hI.sz]; exact hdn)
    have hne : ∀ (k : Nat) rk e, rs[k]? = some rk → rk.dst = some e → i ≠ k → d ≠ e := fun k rk e hk hke hik e' => hp.dist i k _ _ d hr hk hik rfl (by rw [e']; exact hke)
    have hsub : ∀ g, O2 X E β rs (listed.setIfInBounds i true) (a'.put (some d) (.pointer (some ⟨w'.heap.size, 0, none⟩))) g → O2 X E β rs listed a' g ∨ g = w'.heap.size := fun g hg' => by
      rcases hg' with h1 | ⟨k, e, υ, h1, h2, h3⟩
      · exact .inl (.inl h1)
      · by_cases hik : i = k
        · subst hik
          rw [hr] at h1
          cases h1
          rw [hslot, if_pos rfl] at h3
          exact .inr (by simpa [blockOf] using h3.symm)
        · rw [getD_set_ne false hik] at h2
          rw [hslot, if_neg (hne k _ e h1 rfl hik)] at h3
          exact .inl (.inr ⟨k, e, υ, h1, h2, h3⟩)
    have hkeep : Keeps w' (w'.alloc (.cells (zcells τ).toArray t)) (O2 X E β rs listed a') (O2 X E β rs (listed.setIfInBounds i true) (a'.put (some d) (.pointer (some ⟨w'.heap.size, 0, none⟩)))) := .of_below hb2 fun g hg h => (hsub g h).resolve_right (by omega)
    have hnos : ∀ (j : Nat) p z, rs[j]? = some (NOp.set d τ p z) → (listed.setIfInBounds i true).getD j false = true → False := fun j p z hj hlj => by
      have hij : i ≠ j := fun e => by subst e; rw [hr] at hj; cases hj
      rw [getD_set_ne false hij] at hlj
      obtain ⟨oj, e1, e2⟩ := hp.get j _ hj
      have hjl := (List.getElem?_eq_some_iff.1 hj).1
      rcases nOne_cases e2 with ⟨_, _, h0, _⟩ | ⟨_, _, _, h0, _⟩ | ⟨t', s', x', υ', z', h0, h1, _⟩
      · cases h0
      · cases h0
      · cases h0
        obtain ⟨_, e, he, heon, heb⟩ := hp.dep i j _ oj d hr hjl e1 (by unfold seesT; simp [h1, Op.operands]) rfl
        have := hI.ord j oj hjl e1 hlj e he heb
        rw [heon, hun] at this
        cases this
    refine ⟨by rw [Act.put_size]; exact hI.sz, by rw [Act.put_defers]; exact hI.df, hb, fun s hs => ?_, fun k e q' hk hl' => ?_, fun k e υ hk hl' => ?_, fun k l e e' υ υ' g hk hl' hlk hll hkl h1 => ?_, hord⟩
    · rw [hslot, if_neg (fun e => hs i o' hir ho (by rw [hd, e]))]
      exact hI.unt s hs
    · have hik : i ≠ k := fun e' => by subst e'; rw [hr] at hk; cases hk
      rw [getD_set_ne false hik] at hl'
      rw [hslot, if_neg (hne k _ e hk rfl hik)]
      exact RepV.keep hkeep _ _ _ (hI.pur k e q' hk hl')
    · by_cases hik : i = k
      · subst hik
        rw [hr] at hk
        cases hk
        exact ⟨w'.heap.size, zcells τ, t, zeroX τ, by rw [hslot, if_pos rfl], hI.bel.size, heap_alloc_new w' _, repC_zero _ _ τ hl.data, fun j p z hj hlj => (hnos j p z hj hlj).elim⟩
      · rw [getD_set_ne false hik] at hl'
        obtain ⟨g, cs, ty, v, e1, e2, e3, e4, e5⟩ := hI.var k e υ hk hl'
        refine ⟨g, cs, ty, v, by rw [hslot, if_neg (hne k _ e hk rfl hik)]; exact e1, e2, (hb2.block g (Array.getElem?_eq_some_iff.1 e3).1).trans e3, RepC.keep hkeep _ _ _ e4, fun j p z hj hlj => e5 j p z hj ?_⟩
        rwa [getD_set_ne false (fun e' => by subst e'; rw [hr] at hj; cases hj)] at hlj
    · have old : ∀ (k : Nat) e υ g, rs[k]? = some (NOp.var e υ) → listed.getD k false = true → blockOf (a'.tmps.getD e undef) = some g → g < w'.heap.size := fun k e υ g hk hl h => hO2 g (.inr ⟨k, e, υ, hk, hl, h⟩)
      by_cases hik : i = k
      · subst hik
        rw [hr] at hk
        cases hk
        rw [hslot, if_pos rfl] at h1
        rw [getD_set_ne false hkl] at hll
        rw [hslot, if_neg (hne l _ e' hl' rfl hkl)]
        intro h2
        have := old l e' υ' g hl' hll h2
        have : w'.heap.size = g := by simpa [blockOf] using h1
        omega
      · rw [getD_set_ne false hik] at hlk
        rw [hslot, if_neg (hne k _ e hk rfl hik)] at h1
        by_cases hil : i = l
        · subst hil
          rw [hr] at hl'
          cases hl'
          rw [hslot, if_pos rfl]
          intro h2
          have := old k e υ g hk hlk h1
          have : w'.heap.size = g := by simpa [blockOf] using h2
          omega
        · rw [getD_set_ne false hil] at hll
          rw [hslot, if_neg (hne l _ e' hl' rfl hil)]
          exact hI.dis k l e e' υ υ' g hk hl' hlk hll hkl h1
  · -- a store into a new variable
    have hl := hK.t.is ht
    simp only [Region.wanted, hgd, if_true]
    have hsx : ∀ t', x = .tmp t' → t' ∈ seesT ops o' := fun t' e => by unfold seesT; exact List.mem_append.2 (.inl (List.mem_filterMap.2 ⟨.tmp t', by rw [hop, e]; simp [Op.operands], rfl⟩))
    have hss : s ∈ seesT ops o' := by unfold seesT; simp [hop, Op.operands]
    have hev : RepV w' (O2 X E β rs listed a') β (evO (putP F (rs.take i)) x).t (evO (putP F (rs.take i)) x).x (a'.eval x) := evO_rep fun t' e => hsees t' (hsx t' e)
    have hx := coe_rep hl.data hy (strip_rep hev ((condsOf_all hc).2 i s τ _ y hr))
    obtain ⟨k, hk⟩ := (vget_varsOf _ _ _ _ hvs).resolve_left (fun h => by cases h)
    rw [List.getElem?_take] at hk
    split at hk <;> first | (cases hk; done) | skip
    rename_i hki
    obtain ⟨_, e, he, heon, heb⟩ := hp.dep k i _ o' s hk hir ho hss rfl
    have hlk := hdone e he heb
    rw [heon] at hlk
    obtain ⟨g, cs, ty, v, e1, e2, e3, e4, e5⟩ := hI.var k s τ hk hlk
    have hus := hx.cells
    have hul := RepC.len _ _ _ hus
    have hcl := RepC.len _ _ _ e4
    have hrun := run_storeCells_at P g 0 ty (a'.eval x).cells.toList 0 cs.toArray w' e3 (by simp only [List.size_toArray]; omega) (RepC.oneCell _ _ _ hus)
    have hrow : (cs.toArray.toList.take (0 + 0) ++ (a'.eval x).cells.toList ++ cs.toArray.toList.drop (0 + 0 + (a'.eval x).cells.toList.length)) = (a'.eval x).cells.toList := by
      simp
      rw [← Array.length_toList]
      omega
    rw [hrow] at hrun
    have hgb := grownBy_row w' g (a'.eval x).cells.toList.toArray
    have hW : Below W.heap.size W (w'.setRow g (a'.eval x).cells.toList.toArray) := hI.bel.trans ⟨hgb.os, hgb.tape, hgb.output, hgb.size, fun k hk => hgb.block k (Nat.lt_of_lt_of_le hk hI.bel.size) fun e => by cases e; omega⟩
    have hvi : ∀ (l : Nat) e υ, rs[l]? = some (NOp.var e υ) → i ≠ l := fun l e υ hl' e' => by subst e'; rw [hr] at hl'; cases hl'
    have hsub : ∀ h, O2 X E β rs (listed.setIfInBounds i true) a' h → O2 X E β rs listed a' h := fun h hg' => by
      rcases hg' with h1 | ⟨l, e, υ, h1, h2, h3⟩
      · exact .inl h1
      · rw [getD_set_ne false (hvi l e υ h1)] at h2
        exact .inr ⟨l, e, υ, h1, h2, h3⟩
    have hgO : O2 X E β rs listed a' g := .inr ⟨k, s, τ, hk, hlk, by rw [e1]; rfl⟩
    have hkeep : Keeps w' (w'.setRow g (a'.eval x).cells.toList.toArray) (O2 X E β rs listed a') (O2 X E β rs (listed.setIfInBounds i true) a') := ⟨hgb.size, fun h hh hn => hgb.block h hh fun e => by cases e; exact hn hgO, fun h _ hh => hsub h hh⟩
    refine .inl ?_
    unfold Oper.wp
    have ex : (execOp a'.eval o').run P w' = .ok .skip (w'.setRow g (a'.eval x).cells.toList.toArray) := by
      have hst : (Instr.storeAt t (.pointer (some ⟨g, 0, none⟩)) (a'.eval x)).run P w' = .ok () (w'.setRow g (a'.eval x).cells.toList.toArray) := by
        unfold Instr.storeAt Instr.sureAddr storeVar
        simp only [Sem.run_bind, Sem.run_pure, Result.andThen_ok, hl.sizeOf]
        rw [if_neg (by simp only [ne_eq, Decidable.not_not]; rw [← hul]; simp)]
        exact hrun
      unfold execOp
      simp only [hop]
      rw [show a'.eval (.tmp s) = a'.tmps.getD s undef from rfl, e1]
      simp [hst]
    rw [ex]
    show NInv X n E β ops rs a W (listed.setIfInBounds i true) (a'.put o'.dst undef) _
    rw [hd]
    show NInv X n E β ops rs a W (listed.setIfInBounds i true) a' _
    refine ⟨hI.sz, hI.df, hW, hI.unt, fun l e q' hl' hll => ?_, fun l e υ hl' hll => ?_, fun l l' e e' υ υ' h hl' hl2 hll hll2 hne h1 => ?_, hord⟩
    · have hil : i ≠ l := fun e' => by subst e'; rw [hr] at hl'; cases hl'
      rw [getD_set_ne false hil] at hll
      exact RepV.keep hkeep _ _ _ (hI.pur l e q' hl' hll)
    · rw [getD_set_ne false (hvi l e υ hl')] at hll
      by_cases hkl : k = l
      · subst hkl
        rw [hk] at hl'
        cases hl'
        refine ⟨g, (a'.eval x).cells.toList, ty, y, e1, e2, setRow_heap w' g cs.toArray _ ty _ e3, RepC.keep hkeep _ _ _ hus, fun j p z hj hlj => ?_⟩
        have := hp.dset i j s _ _ _ _ _ _ hr hj
        subst this
        rw [hr] at hj
        cases hj
        rfl
      · obtain ⟨g', cs', ty', v', f1, f2, f3, f4, f5⟩ := hI.var l e υ hl' hll
        have hgg : g' ≠ g := fun e' => hI.dis k l s e τ υ g hk hl' hlk hll hkl (by rw [e1]; rfl) (by rw [f1, e']; rfl)
        refine ⟨g', cs', ty', v', f1, f2, (hgb.block g' (Array.getElem?_eq_some_iff.1 f3).1 fun e => by cases e; exact hgg rfl).trans f3, RepC.keep hkeep _ _ _ f4, fun j p z hj hlj => f5 j p z hj ?_⟩
        rwa [getD_set_ne false (fun e' => by
          subst e'
          rw [hr] at hj
          cases hj
          exact hp.dist k l _ _ s hk hl' hkl rfl rfl)] at hlj
    · rw [getD_set_ne false (hvi l e υ hl')] at hll
      rw [getD_set_ne false (hvi l' e' υ' hl2)] at hll2
      exact hI.dis l l' e e' υ υ' h hl' hl2 hll hll2 hne h1
theorem RepV.agree {w : World} {O : Nat → Prop} {β β' : Nat → Value} {k : Nat} (hk : ∀ j, j < k → β' j = β j) : ∀ (t : Ty) (x : t.T) (v : Value), bnd t x ≤ k → RepV w O β t x v → RepV w O β' t x v := by
  intro t
  induction t with
  | optr t _ =>
    rintro x v hb ⟨g, h1, h2⟩
    have : x.i < k := by simp [bnd] at hb; omega
    exact ⟨g, by rw [hk _ this]; exact h1, h2⟩
  | obuf t _ =>
    intro x v
    change Nat at x
    intro hb h
    have hb' : x + 1 ≤ k := hb
    have h' : v = β x := h
    show v = β' x
    rw [hk x (by omega), h']
  | cond t ih => intro x v hb h; exact ⟨fun hc => ih _ _ hb (h.1 hc), h.2⟩
  | hptr =>
    rintro x v hb ⟨g, h1, h2⟩
    have : x.1 < k := by simp [bnd] at hb; omega
    exact ⟨g, by rw [hk _ this]; exact h1, h2⟩
  | hcons a b iha ihb =>
    rintro x v hb ⟨u, s, h1, h2, h3, h4⟩
    have hb' : max (bnd a x.1) (bnd b x.2) ≤ k := hb
    exact ⟨u, s, h1, h2, iha _ _ (by omega) h3, ihb _ _ (by omega) h4⟩
  | _ => intro x v hb h; exact h
def fin1 : AS → NOp → AS
  | ⟨F, E, nx⟩, .pure d q => ⟨(d, q.2) :: F, E, nx⟩
  | ⟨F, E, nx⟩, .var d _ => ⟨(d, ⟨.junk, ()⟩) :: F, E, nx⟩
  | ⟨F, E, nx⟩, .set s τ _ y => ⟨(s, ⟨.optr τ, ⟨nx, τ, .here⟩⟩) :: F, (nx, some (.box τ y)) :: E, nx + 1⟩
theorem fins_cons (σ : AS) (r : NOp) (rs : List NOp) : fins σ (r :: rs) = fins (fin1 σ r) rs := by
  obtain ⟨F, E, nx⟩ := σ
  cases r <;> rfl
theorem fins_snoc : ∀ (rs : List NOp) (σ : AS) (r : NOp), fins σ (rs ++ [r]) = fin1 (fins σ rs) r
  | [], σ, r => by
    rw [List.nil_append, fins_cons]
    rfl
  | r0 :: rs, σ, r => by
    rw [List.cons_append, fins_cons, fins_cons, fins_snoc rs]
theorem putP_snoc : ∀ (rs : List NOp) (F : Frame) (r : NOp), putP F (rs ++ [r]) = r.putP (putP F rs)
  | [], F, r => rfl
  | r0 :: rs, F, r => by
    simp only [List.cons_append, putP]
    exact putP_snoc rs _ r
theorem NPlan.bound {E : Owns} {F : Frame} {rs : List NOp} (hp : NPlan K n ops E F rs) {nx : Nat} (hF : ∀ s, (Frame.get F s).bound ≤ nx) (hlt : ∀ i o, Owns.get E i = some o → i < nx ∧ o.under nx) (hT : ∀ t τ, tget K.T t = some τ → τ.data = true) :
    ∀ k, k ≤ rs.length → (∀ s, (Frame.get (putP F (rs.take k)) s).bound ≤ nx) ∧ ∀ (i : Nat) d q, i < k → rs[i]? = some (NOp.pure d q) → q.2.bound ≤ nx := by
  intro k
  induction k with
  | zero => exact fun _ => ⟨fun s => by simpa [putP] using hF s, fun i d q h => by omega⟩
  | succ k ih =>
    intro hk
    obtain ⟨h1, h2⟩ := ih (by omega)
    have hr : rs[k]? = some rs[k] := List.getElem?_eq_getElem (by omega)
    obtain ⟨o, _, hone⟩ := hp.get k _ hr
    have htk : rs.take (k + 1) = rs.take k ++ [rs[k]] := List.take_succ_eq_append_getElem (by omega)
    have hb : ∀ d q, rs[k] = NOp.pure d q → q.2.bound ≤ nx := fun d q e => by
      rw [e] at hone
      rcases nOne_cases hone with ⟨d', q', h0, _, _, hg⟩ | ⟨_, _, _, h0, _⟩ | ⟨_, _, _, _, _, h0, _⟩
      · cases h0; exact gOp_bound hg h1 hlt hT
      · cases h0
      · cases h0
    refine ⟨fun s => ?_, fun i d q hi hq => ?_⟩
    · rw [htk, putP_snoc]
      generalize hrk : rs[k] = r at *
      cases r with
      | pure d q =>
        simp only [NOp.putP]
        rw [Frame.get_cons]
        split
        · exact hb d q rfl
        · exact h1 s
      | var d τ =>
        simp only [NOp.putP]
        rw [Frame.get_cons]
        split
        · exact Nat.zero_le _
        · exact h1 s
      | set => exact h1 s
    · rcases (by omega : i < k ∨ i = k) with h | rfl
      · exact h2 i d q h hq
      · rw [hr] at hq
        exact hb d q (Option.some.inj hq)
structure NFin (w0 : World) (X : Ownr) (σ : AS) (β : Nat → Value) (rs : List NOp) (W : World) (O : Nat → Prop) (a' : Act) (w' : World) (k : Nat) (σ' : AS) (β' : Nat → Value) : Prop where
  old : ∀ j, j < σ.nx → β' j = β j
  nx : σ.nx ≤ σ'.nx
  fr : ∀ s, RepV w' O β' (Frame.get σ'.F s).t (Frame.get σ'.F s).x (a'.tmps.getD s undef)
  own : ∀ i o, Owns.get σ'.E i = some o → OwnRep w' O β' 0 (β' i) o
  new : ∀ i o g, Owns.get σ'.E i = some o → blockOf (β' i) = some g → w0.heap.size ≤ g ∨ X.R g
  inj : ∀ i j oi oj, Owns.get σ'.E i = some oi → Owns.get σ'.E j = some oj → i ≠ j → ∀ g, blockOf (β' i) = some g → blockOf (β' j) ≠ some g
  lt : ∀ i o, Owns.get σ'.E i = some o → i < σ'.nx
  fix : X.K ≤ σ'.nx ∧ ∀ i, i < X.K → blockOf (β' i) = some (X.fix i) ∧ ∀ o, Owns.get σ'.E i = some o → o.isBuf = false
  hb : ∀ s, (Frame.get σ'.F s).bound ≤ σ'.nx
  sub : ∀ g, OSet X σ'.E β' g → O g
  src : ∀ i o g, Owns.get σ'.E i = some o → blockOf (β' i) = some g → g < W.heap.size ∨ ∃ (j : Nat) (d : Nat) (τ : Ty) (p : List Prop) (y : τ.T), j < k ∧ rs[j]? = some (NOp.set d τ p y) ∧ blockOf (a'.tmps.getD d undef) = some g
  hE : ∀ i o, Owns.get σ'.E i = some o → o.under σ'.nx
theorem NFin.step {E : Owns} {F : Frame} {rs : List NOp} {W : World} {listed : Array Bool} {a' : Act} {w' : World} (hp : NPlan K n ops E F rs) (hI : NInv X n E β ops rs a W listed a' w') (hall : ∀ i, i < rs.length → listed.getD i false = true) (hW : w0.heap.size ≤ W.heap.size)
    (hbd : ∀ (i : Nat) d q, rs[i]? = some (NOp.pure d q) → q.2.bound ≤ σ.nx) {k : Nat} {σ' : AS} {β' : Nat → Value} (h : NFin w0 X σ β rs W (O2 X E β rs listed a') a' w' k σ' β') {r : NOp} (hr : rs[k]? = some r) :
    ∃ β'', NFin w0 X σ β rs W (O2 X E β rs listed a') a' w' (k + 1) (fin1 σ' r) β'' := by
  have hkl := (List.getElem?_eq_some_iff.1 hr).1
  obtain ⟨F', E', nx'⟩ := σ'
  have src' : ∀ i o g, Owns.get E' i = some o → blockOf (β' i) = some g → g < W.heap.size ∨ ∃ (j : Nat) (d : Nat) (τ : Ty) (p : List Prop) (y : τ.T), j < k + 1 ∧ rs[j]? = some (NOp.set d τ p y) ∧ blockOf (a'.tmps.getD d undef) = some g := fun i o g hi hg => by
    rcases h.src i o g hi hg with h1 | ⟨j, d, τ, p, y, h1, h2⟩
    · exact .inl h1
    · exact .inr ⟨j, d, τ, p, y, by omega, h2⟩
  cases r with
  | pure d q =>
    refine ⟨β', h.old, h.nx, fun s => ?_, h.own, h.new, h.inj, h.lt, h.fix, fun s => ?_, h.sub, src', h.hE⟩
    · show RepV _ _ _ (Frame.get ((d, q.2) :: F') s).t _ _
      have h1 : RepV w' (O2 X E β rs listed a') β' q.2.t q.2.x (a'.tmps.getD d undef) := RepV.agree h.old _ _ _ (hbd k d q hr) (hI.pur k d q hr (hall k hkl))
      show RepV _ _ _ (Frame.get ((d, q.2) :: F') s).t (Frame.get ((d, q.2) :: F') s).x _
      generalize hv : Frame.get ((d, q.2) :: F') s = v
      rw [Frame.get_cons] at hv
      by_cases e : d = s
      · rw [if_pos e] at hv; subst hv; subst e; exact h1
      · rw [if_neg e] at hv; subst hv; exact h.fr s
    · show (Frame.get ((d, q.2) :: F') s).bound ≤ nx'
      rw [Frame.get_cons]
      split
      · exact Nat.le_trans (hbd k d q hr) h.nx
      · exact h.hb s
  | var d τ =>
    refine ⟨β', h.old, h.nx, fun s => ?_, h.own, h.new, h.inj, h.lt, h.fix, fun s => ?_, h.sub, src', h.hE⟩
    · show RepV _ _ _ (Frame.get ((d, ⟨.junk, ()⟩) :: F') s).t (Frame.get ((d, ⟨.junk, ()⟩) :: F') s).x _
      generalize hv : Frame.get ((d, ⟨.junk, ()⟩) :: F') s = v
      rw [Frame.get_cons] at hv
      by_cases e : d = s
      · rw [if_pos e] at hv; subst hv; trivial
      · rw [if_neg e] at hv; subst hv; exact h.fr s
    · show (Frame.get ((d, ⟨.junk, ()⟩) :: F') s).bound ≤ nx'
      rw [Frame.get_cons]
      split
      · exact Nat.zero_le _
      · exact h.hb s
  | set s τ p y =>
    obtain ⟨o, ho, hone⟩ := hp.get k _ hr
    obtain ⟨kk, hkk⟩ : ∃ kk : Nat, rs[kk]? = some (NOp.var s τ) := by
      rcases nOne_cases hone with ⟨_, _, h0, _⟩ | ⟨_, _, _, h0, _⟩ | ⟨_, _, _, _, _, h0, _, _, _, hvs, _⟩
      · cases h0
      · cases h0
      · cases h0
        obtain ⟨kk, hkk⟩ := (vget_varsOf _ _ _ _ hvs).resolve_left (fun h => by cases h)
        rw [List.getElem?_take] at hkk
        split at hkk
        · exact ⟨kk, hkk⟩
        · cases hkk
    have hkkl := (List.getElem?_eq_some_iff.1 hkk).1
    obtain ⟨g, cs, ty, v, e1, e2, e3, e4, e5⟩ := hI.var kk s τ hkk (hall kk hkkl)
    have hvy := e5 k p y hr (hall k hkl)
    subst hvy
    have hfresh : ∀ i o, Owns.get E' i = some o → blockOf (β' i) ≠ some g := fun i o hi hg => by
      rcases h.src i o g hi hg with h1 | ⟨j, d, υ, q, z, h1, h2, h3⟩
      · omega
      · obtain ⟨oj, _, honej⟩ := hp.get j _ h2
        obtain ⟨jj, hjj⟩ : ∃ jj : Nat, rs[jj]? = some (NOp.var d υ) := by
          rcases nOne_cases honej with ⟨_, _, h0, _⟩ | ⟨_, _, _, h0, _⟩ | ⟨_, _, _, _, _, h0, _, _, _, hvs, _⟩
          · cases h0
          · cases h0
          · cases h0
            obtain ⟨jj, hjj⟩ := (vget_varsOf _ _ _ _ hvs).resolve_left (fun h => by cases h)
            rw [List.getElem?_take] at hjj
            split at hjj
            · exact ⟨jj, hjj⟩
            · cases hjj
        have hjjl := (List.getElem?_eq_some_iff.1 hjj).1
        by_cases hd : d = s
        · subst hd
          have := hp.dset j k d _ _ _ _ _ _ h2 hr
          omega
        · have hne : jj ≠ kk := fun e => by subst e; rw [hkk] at hjj; cases hjj; exact hd rfl
          exact hI.dis jj kk d s υ τ g hjj hkk (hall jj hjjl) (hall kk hkkl) hne h3 (by rw [e1]; rfl)
    refine ⟨fun j => if j = nx' then .pointer (some ⟨g, 0, none⟩) else β' j, fun j hj => ?_, Nat.le_succ_of_le h.nx, fun t => ?_, fun i o hi => ?_, fun i o g' hi => ?_, fun i j oi oj hi hj hij g' => ?_, fun i o hi => ?_, ⟨Nat.le_succ_of_le h.fix.1, fun i hi => ?_⟩, fun t => ?_, fun g' hg' => ?_, fun i o g' hi => ?_, fun i o hi => ?_⟩
    · have := h.nx
      show (if j = nx' then _ else _) = _
      rw [if_neg (by simp only at this; omega)]
      exact h.old j hj
    · show RepV _ _ _ (Frame.get ((s, ⟨.optr τ, ⟨nx', τ, .here⟩⟩) :: F') t).t (Frame.get ((s, ⟨.optr τ, ⟨nx', τ, .here⟩⟩) :: F') t).x _
      generalize hv : Frame.get ((s, ⟨.optr τ, ⟨nx', τ, .here⟩⟩) :: F') t = v
      rw [Frame.get_cons] at hv
      by_cases e : s = t
      · rw [if_pos e] at hv
        subst hv
        subst e
        exact ⟨g, by simp [blockOf], e1⟩
      · rw [if_neg e] at hv
        subst hv
        exact RepV.update _ _ _ (h.hb t) (h.fr t)
    · have hi : Owns.get ((nx', some (.box τ v)) :: E') i = some o := hi
      rw [Owns.get_cons] at hi
      show OwnRep _ _ _ _ (if i = nx' then _ else _) _
      by_cases e : nx' = i
      · rw [if_pos e] at hi
        cases hi
        rw [if_pos e.symm]
        exact ⟨g, cs, ty, rfl, Nat.zero_le _, e3, e4⟩
      · rw [if_neg e] at hi
        rw [if_neg (Ne.symm e)]
        exact (h.own i o hi).update (h.hE i o hi)
    · have hi : Owns.get ((nx', some (.box τ v)) :: E') i = some o := hi
      rw [Owns.get_cons] at hi
      show blockOf (if i = nx' then _ else _) = _ → _
      by_cases e : nx' = i
      · rw [if_pos e.symm]
        intro hg
        have : g = g' := by simpa [blockOf] using hg
        exact .inl (by omega)
      · rw [if_neg e] at hi
        rw [if_neg (Ne.symm e)]
        exact h.new i o g' hi
    · have hi : Owns.get ((nx', some (.box τ v)) :: E') i = some oi := hi
      have hj : Owns.get ((nx', some (.box τ v)) :: E') j = some oj := hj
      rw [Owns.get_cons] at hi hj
      show blockOf (if i = nx' then _ else _) = _ → blockOf (if j = nx' then _ else _) ≠ _
      by_cases ei : nx' = i
      · by_cases ej : nx' = j
        · omega
        · rw [if_neg ej] at hj
          rw [if_pos ei.symm, if_neg (Ne.symm ej)]
          intro hg
          have : g = g' := by simpa [blockOf] using hg
          subst this
          exact hfresh j oj hj
      · rw [if_neg ei] at hi
        rw [if_neg (Ne.symm ei)]
        by_cases ej : nx' = j
        · rw [if_pos ej.symm]
          intro hg hg2
          have : g = g' := by simpa [blockOf] using hg2
          subst this
          exact hfresh i oi hi hg
        · rw [if_neg ej] at hj
          rw [if_neg (Ne.symm ej)]
          exact h.inj i j oi oj hi hj hij g'
    · have hi : Owns.get ((nx', some (.box τ v)) :: E') i = some o := hi
      rw [Owns.get_cons] at hi
      show i < nx' + 1
      by_cases e : nx' = i
      · omega
      · rw [if_neg e] at hi
        have : i < nx' := h.lt i o hi
        omega
    · have h1 := h.fix.1
      have h2 := h.fix.2 i hi
      have hne : i ≠ nx' := by simp only at h1; omega
      refine ⟨?_, fun o ho => ?_⟩
      · show blockOf (if i = nx' then _ else _) = _
        rw [if_neg hne]
        exact h2.1
      · have ho : Owns.get ((nx', some (.box τ v)) :: E') i = some o := ho
        rw [Owns.get_cons, if_neg (Ne.symm hne)] at ho
        exact h2.2 o ho
    · show (Frame.get ((s, ⟨.optr τ, ⟨nx', τ, .here⟩⟩) :: F') t).bound ≤ nx' + 1
      rw [Frame.get_cons]
      split
      · exact Nat.le_refl _
      · exact Nat.le_succ_of_le (h.hb t)
    · rcases hg' with h1 | ⟨i, o, hi, hg⟩
      · exact .inl (.inl h1)
      · have hi : Owns.get ((nx', some (.box τ v)) :: E') i = some o := hi
        rw [Owns.get_cons] at hi
        have hg : blockOf (if i = nx' then _ else _) = _ := hg
        by_cases e : nx' = i
        · rw [if_pos e.symm] at hg
          have : g = g' := by simpa [blockOf] using hg
          subst this
          exact .inr ⟨kk, s, τ, hkk, hall kk hkkl, by rw [e1]; rfl⟩
        · rw [if_neg e] at hi
          rw [if_neg (Ne.symm e)] at hg
          exact h.sub g' (.inr ⟨i, o, hi, hg⟩)
    · have hi : Owns.get ((nx', some (.box τ v)) :: E') i = some o := hi
      rw [Owns.get_cons] at hi
      show blockOf (if i = nx' then _ else _) = _ → _
      by_cases e : nx' = i
      · rw [if_pos e.symm]
        intro hg
        have : g = g' := by simpa [blockOf] using hg
        subst this
        exact .inr ⟨k, s, τ, p, v, Nat.lt_succ_self k, hr, by rw [e1]; rfl⟩
      · rw [if_neg e] at hi
        rw [if_neg (Ne.symm e)]
        exact src' i o g' hi
    · have hi : Owns.get ((nx', some (.box τ v)) :: E') i = some o := hi
      rw [Owns.get_cons] at hi
      by_cases e : nx' = i
      · rw [if_pos e] at hi; cases hi; intro _ e'; cases e'
      · rw [if_neg e] at hi
        intro vs ev u hu
        have := h.hE i o hi vs ev u hu
        show u.bound ≤ nx' + 1
        simp only at this
        omega
theorem junks_get : ∀ (l : List Oper) (F : Frame) (t : Nat), Frame.get (junks l F) t = Frame.get F t ∨ Frame.get (junks l F) t = ⟨.junk, ()⟩
  | [], _, _ => .inl rfl
  | o :: l, F, t => by
    simp only [junks]
    split
    · rename_i d _
      rcases junks_get l ((d, ⟨.junk, ()⟩) :: F) t with h | h
      · rw [h, Frame.get_cons]
        split
        · exact .inr rfl
        · exact .inl rfl
      · exact .inr h
    · exact junks_get l F t
theorem junks_at : ∀ (l : List Oper) (F : Frame) (t : Nat), (Frame.get F t = ⟨.junk, ()⟩ ∨ ∃ o ∈ l, o.dst = some t) → Frame.get (junks l F) t = ⟨.junk, ()⟩
  | [], _, _, h => by
    rcases h with h | ⟨o, ho, _⟩
    · exact h
    · cases ho
  | o :: l, F, t, h => by
    simp only [junks]
    split
    · rename_i d hd
      refine junks_at l _ t ?_
      rw [Frame.get_cons]
      by_cases e : d = t
      · rw [if_pos e]; exact .inl rfl
      · rw [if_neg e]
        rcases h with h | ⟨o', ho', hd'⟩
        · exact .inl h
        · rcases List.mem_cons.1 ho' with rfl | ho'
          · rw [hd] at hd'; cases hd'; exact absurd rfl e
          · exact .inr ⟨o', ho', hd'⟩
    · rename_i hd
      refine junks_at l _ t ?_
      rcases h with h | ⟨o', ho', hd'⟩
      · exact .inl h
      · rcases List.mem_cons.1 ho' with rfl | ho'
        · rw [hd] at hd'; cases hd'
        · exact .inr ⟨o', ho', hd'⟩
/-- a region that draws its order and makes variables -/
theorem new_any (hK : KnOk P X.G K) (hX : X.Ok w0) (h : Sim w0 X n σ β a w) {m : Nat} (hB : headN ops m = true) {rs : List NOp} (h1 : nHead K n ops σ.E (ops.toList.take m) σ.F [] = some rs)
    {r2 : List Prop × AS} (h2 : aSeq K n ops (ops.toList.drop m) (fins ⟨junks (ops.toList.take m) σ.F, σ.E, σ.nx⟩ rs) = some r2) (hp1 : allP (condsOf rs)) (hp2 : allP r2.1) (hR : ∀ β' a' w', Sim w0 X n r2.2 β' a' w' → R .normal a' w') : wpAny P .any ops R ops.size (Array.replicate ops.size false) a { w with drawn := w.drawn + 1 } := by
  obtain ⟨hl, hp⟩ := nPlan_of hB h1
  simp only [headN, Bool.and_eq_true, Nat.ble_eq] at hB
  obtain ⟨⟨⟨⟨hms, hflow⟩, hback⟩, htl0⟩, hseq⟩ := hB
  have htl : m = ops.size ∨ (Region.sinkB .any ops m = true ∧ Region.chainB .any ops m = true) := by
    simp only [Bool.or_eq_true, Bool.and_eq_true, Nat.beq_eq] at htl0
    exact htl0
  let W := w.drew
  have hsim : Sim w0 X n σ β a W := ⟨h.sz, h.df, h.bel.then ((Below.refl _ _).drew), fun s => RepV.keep (.of_below ((Below.refl _ _).drew) fun _ _ h => h) _ _ _ (h.fr s), fun i o ho => (h.own i o ho).keep (.of_below ((Below.refl _ _).drew) fun _ _ h => h) fun _ _ => rfl, h.new, h.inj, h.lt, h.fix, h.hb, h.hE⟩
  have hXO : ∀ g, OSet X σ.E β g → g < W.heap.size := hsim.hO hX
  have hsum : ops.size = left (Array.replicate ops.size false) m + (ops.size - m) := by
    have : left (Array.replicate ops.size false) m = m := by
      unfold left
      have : (List.range m).filter (fun i => !(Array.replicate ops.size false).getD i false) = List.range m := by
        rw [List.filter_eq_self]
        intro i _
        rw [getD_replicate_false]
        rfl
      rw [this, List.length_range]
    omega
  suffices hkey : wpAny P .any ops R (left (Array.replicate ops.size false) m + (ops.size - m)) (Array.replicate ops.size false) a W by
    rw [← hsum] at hkey
    exact hkey
  have nof : ∀ j, (Array.replicate ops.size false).getD j false = true → False := fun j hj => by rw [getD_replicate_false] at hj; cases hj
  refine wpAny_head hms hback htl (NInv X n σ.E β ops rs a W) ?_ ?_ _ _ a W rfl ⟨by simp, fun j oj _ hlj => (by rw [getD_replicate_false] at hlj; cases hlj), fun t _ ht => getD_in (by simpa using ht) (getD_replicate_false _ _)⟩
    ⟨h.sz, h.df, Below.refl _ _, fun _ _ => rfl, fun i d q _ hli => (nof i hli).elim, fun i d τ _ hli => (nof i hli).elim, fun i j d e τ υ g _ _ hli => (nof i hli).elim, fun j o _ _ hli => (nof j hli).elim⟩
  · -- an operation of the head comes up
    intro listed a' w' hI i him hir
    obtain ⟨hun, o', ho', hdone⟩ := mem_ready.1 hir
    exact hI.step hK (fun w' hb => hX.2.2 w' (hsim.bel.then hb)) hp hp1 hsim.fr hXO (fun i o ho => hsim.own i o ho) (List.getElem?_eq_getElem (by omega)) ho' (getD_both hun) hdone
  · -- the tail
    rintro listed a' w' inv hall hI
    have hlist : listed = (List.replicate m true ++ List.replicate (ops.size - m) false).toArray := by
      apply Array.ext
      · rw [inv.size]; simp; omega
      · intro i h1 h2
        rw [inv.size] at h1
        by_cases him : i < m
        · have := hall i him
          simp only [Array.getD, show i < listed.size by rw [inv.size]; exact h1, dif_pos] at this
          have e : listed[i] = true := this
          rw [e]
          simp [List.getElem_append, him]
        · have := inv.tail i (by omega) h1
          have := getD_both this
          simp only [Array.getD, show i < listed.size by rw [inv.size]; exact h1, dif_pos] at this
          have e : listed[i] = false := this
          rw [e]
          simp [List.getElem_append, him]
    have hall' : ∀ i, i < rs.length → listed.getD i false = true := fun i hi => hall i (by omega)
    have hbd := (hp.bound hsim.hb (fun i o ho => ⟨hsim.lt i o ho, hsim.hE i o ho⟩) (fun t τ ht => (hK.t.lay t τ ht).data) rs.length (Nat.le_refl _)).2
    have hfin : ∀ k, k ≤ rs.length → ∃ β', NFin w0 X σ β rs W (O2 X σ.E β rs listed a') a' w' k (fins ⟨junks (ops.toList.take m) σ.F, σ.E, σ.nx⟩ (rs.take k)) β' := by
      intro k
      induction k with
      | zero =>
        intro _
        refine ⟨β, fun _ _ => rfl, Nat.le_refl _, fun s => ?_, fun i o ho => (hsim.own i o ho).keep (.of_below hI.bel fun g hg h => hI.O2_old hg h) fun g hg => hI.bel.block g ((hsim.own i o ho).block_lt hg).2, hsim.new, hsim.inj, hsim.lt, hsim.fix, fun s => ?_, fun g hg => .inl hg, fun i o g ho hg => .inl ((hsim.own i o ho).block_lt hg).2, hsim.hE⟩
        · show RepV w' _ β (Frame.get (junks (ops.toList.take m) σ.F) s).t (Frame.get (junks (ops.toList.take m) σ.F) s).x _
          by_cases hex : ∃ o ∈ ops.toList.take m, o.dst = some s
          · generalize hv : Frame.get (junks (ops.toList.take m) σ.F) s = v
            rw [junks_at _ _ _ (.inr hex)] at hv
            subst hv
            trivial
          · have hu := hI.unt s fun i o hi ho hd => hex ⟨o, by
              refine List.mem_of_getElem? (i := i) ?_
              rw [List.getElem?_take, if_pos (by omega)]
              simpa using ho, hd⟩
            rw [hu]
            generalize hv : Frame.get (junks (ops.toList.take m) σ.F) s = v
            rcases junks_get (ops.toList.take m) σ.F s with e | e
            · rw [hv] at e
              subst e
              exact RepV.keep (.of_below hI.bel fun g hg h => hI.O2_old hg h) _ _ _ (hsim.fr s)
            · rw [hv] at e
              subst e
              trivial
        · show (Frame.get (junks (ops.toList.take m) σ.F) s).bound ≤ σ.nx
          rcases junks_get (ops.toList.take m) σ.F s with e | e
          · rw [e]; exact hsim.hb s
          · rw [e]; exact Nat.zero_le _
      | succ k ih =>
        intro hk
        obtain ⟨β', hf⟩ := ih (by omega)
        have hr : rs[k]? = some rs[k] := List.getElem?_eq_getElem (by omega)
        obtain ⟨β'', hf2⟩ := hf.step hp hI hall' hsim.bel.size (fun i d q hq => hbd i d q ((List.getElem?_eq_some_iff.1 hq).1) hq) hr
        refine ⟨β'', ?_⟩
        rw [List.take_succ_eq_append_getElem (by omega), fins_snoc]
        exact hf2
    obtain ⟨β', hf⟩ := hfin rs.length (Nat.le_refl _)
    rw [List.take_length] at hf
    have hmono : Keeps w' w' (O2 X σ.E β rs listed a') (OSet X (fins ⟨junks (ops.toList.take m) σ.F, σ.E, σ.nx⟩ rs).E β') := ⟨Nat.le_refl _, fun _ _ _ => rfl, fun g _ h => hf.sub g h⟩
    have hsim' : Sim w0 X n (fins ⟨junks (ops.toList.take m) σ.F, σ.E, σ.nx⟩ rs) β' a' w' :=
      ⟨hI.sz, hI.df, hsim.bel.then hI.bel, fun s => RepV.keep hmono _ _ _ (hf.fr s), fun i o ho => (hf.own i o ho).keep hmono fun _ _ => rfl, hf.new, hf.inj, hf.lt, hf.fix, hf.hb, hf.hE⟩
    subst hlist
    have hlt : (ops.toList.drop m).length = ops.size - m := by simp
    have := wpAny_of_seq (P := P) (md := .any) (Q' := R) (ops := ops) (ops.toList.drop m) m (List.replicate m true ++ List.replicate (ops.size - m) false).toArray a' w' (fun j => by simp [List.getElem?_drop]) (by rw [hlt]; exact hseq) (aSeq_wp hK hX _ hsim' h2 hp2 hR)
    rwa [hlt] at this
end
end Go.Proofs.YtbbeldmcdjjnbaaDoor
