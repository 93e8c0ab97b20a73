/-
  Literals of bytes in a region that draws its order: the literal's conversion marks its new block. No program is read here.
-/
import Derived.Test.YtpepbnieocdpbaaDoorAbsDraw
namespace Go.Proofs.YtpepbnieocdpbaaDoor
open Go Go.RowKit
set_option linter.unusedSimpArgs false
set_option linter.unusedVariables false

/-- a new list's value, or none -/
def NewB (W w' : World) (u : Value) : Prop := u = undef ∨ ∃ g k c cs te fz, u = .slice (some ⟨g, 0, none⟩) k c ∧ W.heap.size ≤ g ∧ w'.heap[g]? = some (.cells cs te fz)
theorem NewB.keepM {W w w' : World} {u : Value} (h : NewB W w u) (hk : KeepsM w w') : NewB W w' u := by
  rcases h with h | ⟨g, k, c, cs, te, fz, h1, h2, h3⟩
  · exact .inl h
  · obtain ⟨fz', h4⟩ := hk.block g cs te fz h3
    exact .inr ⟨g, k, c, cs, te, fz', h1, h2, h4⟩
theorem NewB.from {W w w' : World} {u : Value} (h : NewB w w' u) (hs : W.heap.size ≤ w.heap.size) : NewB W w' u := by
  rcases h with h | ⟨g, k, c, cs, te, fz, h1, h2, h3⟩
  · exact .inl h
  · exact .inr ⟨g, k, c, cs, te, fz, h1, Nat.le_trans hs h2, h3⟩
def isBuild (o : Oper) : Bool := match o.op with
  | .buildSlice _ _ _ => true
  | _ => false
/-- a conversion of a literal of bytes of the head to its own type -/
def markT (ops : Array Oper) (m : Nat) (o : Oper) : Option (TypeId × Nat) := match o.op with
  | .convert s d (.tmp t) => if Nat.beq s d && ((List.range m).any fun j => match ops[j]? with | some oj => isBuild oj && (oj.dst == some t) | none => false) then some (s, t) else none
  | _ => none
theorem markT_spec {ops : Array Oper} {m : Nat} {o : Oper} {s t : Nat} (h : markT ops m o = some (s, t)) : o.op = .convert s s (.tmp t) ∧ ∃ j oj, j < m ∧ ops[j]? = some oj ∧ isBuild oj = true ∧ oj.dst = some t := by
  unfold markT at h
  split at h
  · rename_i s' d t' hop
    split at h
    · rename_i hc
      cases h
      simp only [Bool.and_eq_true] at hc
      have : s = d := Nat.eq_of_beq_eq_true hc.1
      subst this
      obtain ⟨j, hj, h2⟩ := List.any_eq_true.1 hc.2
      rw [List.mem_range] at hj
      split at h2
      · rename_i oj hoj
        simp only [Bool.and_eq_true, beq_iff_eq] at h2
        exact ⟨hop, j, oj, hj, hoj, h2.1, h2.2⟩
      · cases h2
    · cases h
  · cases h
noncomputable def hOp (K : Kn) (n : Nat) (ops : Array Oper) (m : Nat) (E : Owns) (F : Frame) (o : Oper) : Res :=
  match markT ops m o with
  | some (s, t) => if tis K.T s (.slice (.int .u8)) then (match o.guard with
    | none => match Frame.get F t with
      | ⟨.slice (.int .u8), x⟩ => some ([], ⟨.slice (.int .u8), x⟩)
      | _ => none
    | some (j, want) => match (ops[j]?).bind (·.dst) with
      | some dj => if Nat.blt dj n then (match gcond (Frame.get F dj) want, Frame.get F t with
        | some c, ⟨.cond (.slice (.int .u8)), x⟩ => some ([c = true → x.1 = true], ⟨.cond (.slice (.int .u8)), (c, x.2)⟩)
        | _, _ => none) else none
      | none => none) else none
  | none => gOp K n ops E F o
noncomputable def mHead (K : Kn) (n : Nat) (ops : Array Oper) (m : Nat) : List Oper → AS → Option (List Prop × AS)
  | [], σ => some ([], σ)
  | o :: r, ⟨F, E, nx⟩ => match o.dst with
    | some d => if Nat.blt d n then (match hOp K n ops m E F o with
      | some (p, ⟨t, x⟩) => preS p (mHead K n ops m r ⟨(d, ⟨t, x⟩) :: F, E, nx⟩)
      | none => none) else none
    | none => none
section
variable {P : Program} {K : Kn} {w0 : World} {X : Ownr} {n : Nat} {σ : AS} {β : Nat → Value} {a : Act} {w : World} {R : Exit → Act → World → Prop} {ops : Array Oper}
theorem hOp_bound {E : Owns} {F : Frame} {m : Nat} {o : Oper} {r : List Prop × V} (h : hOp K n ops m E F o = some r) {k : Nat} (hF : ∀ s, (Frame.get F s).bound ≤ k) (hE : ∀ i o, Owns.get E i = some o → i < k) : r.2.bound ≤ k := by
  unfold hOp at h
  split at h
  · split at h
    · split at h
      · split at h
        · cases h; exact Nat.zero_le _
        · cases h
      · split at h
        · split at h
          · split at h
            · cases h; exact Nat.zero_le _
            · cases h
          · cases h
        · cases h
    · cases h
  · exact gOp_bound h hF hE
theorem build_wp {G : World → Prop} (hK : KnOk P G K) {O : Nat → Prop} (hO : ∀ g, O g → g < w.heap.size) {E : Owns} {F : Frame} {o : Oper} {r : List Prop × V} (h : gOp K n ops E F o = some r) (hbd : isBuild o = true) (hp : allP r.1) (hsz : a.tmps.size = n)
    (hops : ∀ t ∈ seesT ops o, RepV w O β (Frame.get F t).t (Frame.get F t).x (a.tmps.getD t undef)) {N : Act → World → Prop}
    (hN : ∀ u w', Below w.heap.size w w' → RepV w' O β r.2.t r.2.x u → NewB w w' u → N (a.put o.dst u) w') :
    if Region.wanted o (yielded ops a.tmps) then o.wp P a w N R ∨ (o.asks P a w ∧ LetsOut R) else N (a.put o.dst undef) w := by
  have hop2 : ∀ x ∈ o.op.operands, RepV w O β (evO F x).t (evO F x).x (a.eval x) := fun x hx => evO_rep fun s hs => hops s (by
    unfold seesT
    refine List.mem_append.2 (.inl (List.mem_filterMap.2 ⟨x, by simpa using hx, ?_⟩))
    rw [hs])
  have hrun : ∀ {p : List Prop} {v : V}, cOp K.T K.Q K.C E F o.op = some (p, v) → allP p → ∀ {N : Act → World → Prop}, (∀ u w', Below w.heap.size w w' → RepV w' O β v.t v.x u → NewB w w' u → N (a.put o.dst u) w') → o.wp P a w N R := by
    intro p v h1 hp' N hN
    unfold isBuild at hbd
    split at hbd
    · rename_i t len parts hop
      rw [hop] at h1 hop2
      have h1 : pOp K.T K.Q E F (.buildSlice t len parts) = some (p, v) := h1
      simp only [pOp] at h1
      split at h1 <;> first | (cases h1; done) | skip
      rename_i pq eq xq h2
      cases h1
      have hps : RepPs w O β (parts.toList.map fun p => (p.1, evO F p.2)) (parts.map fun p => (p.1, a.eval p.2)).toList := by
        rw [Array.toList_map]
        exact repPs_map fun p hpm => hop2 p.2 (by simp only [Op.operands]; simp; exact ⟨p.1, by simpa using hpm⟩)
      have hlen : len ≤ maxLen := by
        have h3 := h2
        unfold buildSliceV at h3
        split at h3
        · split at h3
          · rename_i e _ hb
            simp only [Bool.and_eq_true, Nat.ble_eq] at hb
            have hpos : 0 < e.size := by simpa using hb.2
            have := Nat.le_mul_of_pos_right len hpos
            simp only [maxLen]
            omega
          · cases h3
        · cases h3
      obtain ⟨ds, te, _, _, _, g1, g2, g3⟩ := buildSliceV_run (P := P) (w := w) hK.t h2 hp' hps
      have hrep : RepV (w.alloc (.cells ds.toArray te)) O β (.slice eq) xq (.slice (some ⟨w.heap.size, 0, none⟩) len len) := by
        have := repS_new hO g1 (cap := len) (by omega) hlen (below_alloc w (.cells ds.toArray te)) (heap_alloc_new w _) (fun j u hj => by simpa using hj)
        rw [g2] at this
        exact RepV.ofSlice this
      refine wp_run (u := .slice (some ⟨w.heap.size, 0, none⟩) len len) (w' := w.alloc (.cells ds.toArray te)) ?_ (hN _ _ (below_alloc _ _) hrep (.inr ⟨w.heap.size, len, len, ds.toArray, te, (0, 0), rfl, Nat.le_refl _, heap_alloc_new w _⟩))
      unfold execOp
      rw [hop]
      exact run_v g3
    · cases hbd
  unfold gOp at h
  cases hg : o.guard with
  | none =>
    rw [hg] at h
    simp only at h
    split at h <;> first | (cases h; done) | skip
    rename_i p t x h1
    have h2 := h
    split at h2
    · cases h2
      simp only [Region.wanted, hg, if_true]
      exact .inl (hrun h1 hp hN)
    · cases h2
  | some g =>
    obtain ⟨j, want⟩ := g
    rw [hg] at h
    simp only at h
    split at h
    · rename_i dj hdj
      split at h
      · rename_i hlt
        split at h <;> first | (cases h; done) | skip
        rename_i c p v h1 h3
        have h4 := h
        split at h4
        · cases h4
        · have h4 := impV_some h4
          subst h4
          have hlt' : dj < n := by simpa using hlt
          have hrep := hops dj (by unfold seesT; rw [hg]; simp [hdj])
          have hw : Region.wanted o (yielded ops a.tmps) = c := by
            unfold Region.wanted
            rw [hg]
            simp only
            rw [yielded_of hdj (by rw [hsz]; exact hlt')]
            exact gcond_wanted h1 hrep
          rw [hw]
          cases hc : c with
          | true =>
            rw [if_pos rfl]
            refine .inl (hrun h3 (allP_impP hp hc) fun u w' hb hr hn => hN u w' hb (condV_rep (fun _ => hr) (fun h0 => ?_)) hn)
            rw [hc] at h0; cases h0
          | false =>
            rw [if_neg (by simp)]
            exact hN undef w (Below.refl _ _) (condV_rep (fun h0 => by rw [hc] at h0; cases h0) fun _ => rfl) (.inl rfl)
      · cases h
    · cases h
theorem mark_wp {G : World → Prop} (hK : KnOk P G K) {O : Nat → Prop} {W : World} {E : Owns} {F : Frame} {m : Nat} {o : Oper} {s t : Nat} (hmk : markT ops m o = some (s, t)) {r : List Prop × V} (h : hOp K n ops m E F o = some r) (hp : allP r.1) (hsz : a.tmps.size = n)
    (hops : ∀ t ∈ seesT ops o, RepV w O β (Frame.get F t).t (Frame.get F t).x (a.tmps.getD t undef)) (hWs : W.heap.size ≤ w.heap.size) (hnb : NewB W w (a.tmps.getD t undef)) {N : Act → World → Prop}
    (hN : ∀ u w', Marked W w w' → KeepsM w w' → RepV w' O β r.2.t r.2.x u → N (a.put o.dst u) w') :
    if Region.wanted o (yielded ops a.tmps) then o.wp P a w N R ∨ (o.asks P a w ∧ LetsOut R) else N (a.put o.dst undef) w := by
  obtain ⟨hop, _⟩ := markT_spec hmk
  have htm : t ∈ seesT ops o := by
    unfold seesT
    refine List.mem_append.2 (.inl (List.mem_filterMap.2 ⟨.tmp t, ?_, rfl⟩))
    rw [hop]
    simp [Op.operands]
  have hrt := hops t htm
  have hself : Marked W w w ∧ KeepsM w w := ⟨⟨rfl, rfl, rfl, Nat.le_refl _, fun _ _ => rfl⟩, ⟨Nat.le_refl _, fun _ _ _ fz h => ⟨fz, h⟩⟩⟩
  unfold hOp at h
  rw [hmk] at h
  simp only at h
  split at h <;> first | (cases h; done) | skip
  rename_i hs
  obtain ⟨e, hu, _, he⟩ := hK.t.is hs
  have key : ∀ x : List UInt8, RepV w O β (.slice (.int .u8)) x (a.tmps.getD t undef) → ∀ {N : Act → World → Prop}, (∀ u w', Marked W w w' → KeepsM w w' → RepV w' O β (.slice (.int .u8)) x u → N (a.put o.dst u) w') → o.wp P a w N R := by
    intro x hx N hN
    rcases hnb with hnb | ⟨g, k, c, cs, te, fz, h1, h2, h3⟩
    · rw [hnb] at hx
      obtain ⟨A, c, hA, _⟩ := (RepV.slice hx).nlen
      cases hA
    · obtain ⟨w2, h4, h5, h6⟩ := mark_run (P := P) (k := k) (c := c) hu he.1 h3
      refine wp_run (u := .slice (some ⟨g, 0, none⟩) k c) (w' := w2) ?_ (hN _ _ (.of h5 h2 hWs) h6 (RepV.keepM h6 _ _ _ (by rw [h1] at hx; exact hx)))
      unfold execOp
      rw [hop]
      rw [← h1] at h4 ⊢
      exact run_v h4
  cases hg : o.guard with
  | none =>
    rw [hg] at h
    simp only at h
    split at h <;> first | (cases h; done) | skip
    rename_i x hx
    cases h
    rw [hx] at hrt
    simp only [Region.wanted, hg, if_true]
    exact .inl (key x hrt hN)
  | some gd =>
    obtain ⟨j, want⟩ := gd
    rw [hg] at h
    simp only at h
    split at h <;> first | (cases h; done) | skip
    rename_i dj hdj
    split at h <;> first | (cases h; done) | skip
    rename_i hlt
    split at h <;> first | (cases h; done) | skip
    rename_i c x h1 hx
    cases h
    have hp : c = true → x.1 = true := hp
    rw [hx] at hrt
    have hlt' : dj < n := by simpa using hlt
    have hrep := hops dj (by unfold seesT; rw [hg]; simp [hdj])
    have hw : Region.wanted o (yielded ops a.tmps) = c := by
      unfold Region.wanted
      rw [hg]
      simp only
      rw [yielded_of hdj (by rw [hsz]; exact hlt')]
      exact gcond_wanted h1 hrep
    rw [hw]
    cases hc : c with
    | true =>
      rw [if_pos rfl]
      refine .inl (key x.2 (hrt.1 (hp hc)) fun u w' hb hk hr => hN u w' hb hk ⟨fun _ => hr, fun h0 => ?_⟩)
      have h0 : c = false := h0
      rw [hc] at h0; cases h0
    | false =>
      rw [if_neg (by simp)]
      refine hN undef w hself.1 hself.2 ⟨fun h0 => ?_, fun _ => rfl⟩
      have h0 : c = true := h0
      rw [hc] at h0; cases h0
/-- what the head's operations yield -/
theorem mHead_spec {m : Nat} : ∀ (l : List Oper) (σ : AS) (r : List Prop × AS), mHead K n ops m l σ = some r → ∃ rs : List (List Prop × V), rs.length = l.length ∧ (allP r.1 → ∀ q ∈ rs, allP q.1) ∧ r.2 = { σ with F := putsF σ.F l (rs.map (·.2)) } ∧
    ∀ i o, l[i]? = some o → ∃ d q, o.dst = some d ∧ d < n ∧ rs[i]? = some q ∧ hOp K n ops m σ.E (putsF σ.F (l.take i) ((rs.map (·.2)).take i)) o = some q
  | [], σ, r, h => by
    cases h
    exact ⟨[], rfl, fun _ q hq => by simp at hq, rfl, fun i o hi => by simp at hi⟩
  | o :: l, σ, r, h => by
    obtain ⟨F, E, nx⟩ := σ
    simp only [mHead] at h
    split at h
    · rename_i d hd
      split at h
      · rename_i hlt
        split at h <;> first | (cases h; done) | skip
        rename_i p t x h1
        obtain ⟨q', h3, rfl⟩ := preS_some h
        obtain ⟨rs, g1, g2, g3, g4⟩ := mHead_spec l _ _ h3
        refine ⟨(p, ⟨t, x⟩) :: rs, by simp [g1], fun hp y hx => ?_, ?_, fun i o' hi => ?_⟩
        · rw [allP_append] at hp
          rcases List.mem_cons.1 hx with rfl | hx
          · exact hp.1
          · exact g2 hp.2 y hx
        · rw [g3]
          simp only [List.map_cons, putsF, hd, Option.getD_some]
        · cases i with
          | zero =>
            cases hi
            exact ⟨d, _, hd, by simpa using hlt, rfl, by simpa [putsF] using h1⟩
          | succ i =>
            obtain ⟨d', q'', e1, e2, e3, e4⟩ := g4 i o' (by simpa using hi)
            refine ⟨d', q'', e1, e2, by simpa using e3, ?_⟩
            simp only [List.map_cons, List.take_succ_cons, putsF, hd, Option.getD_some] at e4 ⊢
            exact e4
      · cases h
    · cases h
/-- a region that draws its order, with literals of bytes -/
theorem mark_any (hK : KnOk P X.G K) (hX : X.Ok w0) (h : Sim w0 X n σ β a w) {m : Nat} (hB : headB ops m = true) {r1 r2 : List Prop × AS} (h1 : mHead K n ops m (ops.toList.take m) σ = some r1) (h2 : aSeq K n ops (ops.toList.drop m) r1.2 = some r2)
    (hp1 : allP r1.1) (hp2 : allP r2.1) (hR : ∀ β' a' w', Sim w0 X n r2.2 β' a' w' → R .normal a' w') : wpAny P .any ops R ops.size (Array.replicate ops.size false) a { w with drawn := w.drawn + 1 } := by
  simp only [headB, Bool.and_eq_true, Nat.ble_eq] at hB
  obtain ⟨⟨⟨⟨hms, hflow⟩, hback⟩, htl0⟩, hseq⟩ := hB
  have htl : m = ops.size ∨ (Region.sinkB .any ops m = true ∧ Region.chainB .any ops m = true) := by
    simp only [Bool.or_eq_true, Bool.and_eq_true, Nat.beq_eq] at htl0
    exact htl0
  obtain ⟨rs, hl, hps, hr1, hspec⟩ := mHead_spec _ _ _ h1
  have hlen : (ops.toList.take m).length = m := by simp; omega
  rw [hlen] at hl
  have hget : ∀ i, i < m → ∃ o d q, ops[i]? = some o ∧ o.dst = some d ∧ d < n ∧ rs[i]? = some q ∧ hOp K n ops m σ.E (putsF σ.F (ops.toList.take i) ((rs.map (·.2)).take i)) o = some q := by
    intro i hi
    have hlt : i < ops.size := by omega
    obtain ⟨d, q, e1, e2, e3, e4⟩ := hspec i ops[i] (by rw [List.getElem?_take, if_pos hi]; simp [hlt])
    rw [List.take_take, Nat.min_eq_left (by omega)] at e4
    exact ⟨ops[i], d, q, by simp [hlt], e1, e2, e3, e4⟩
  have hsome : ∀ k, k ≤ m → ∀ o ∈ ops.toList.take k, o.dst.isSome = true := by
    intro k hk o ho
    obtain ⟨i, hi⟩ := List.mem_iff_getElem?.1 ho
    rw [List.getElem?_take] at hi
    split at hi
    · obtain ⟨o', d, q, e1, e2, _⟩ := hget i (by omega)
      have : o' = o := by
        have : ops.toList[i]? = some o' := by simpa using e1
        rw [this] at hi; cases hi; rfl
      rw [← this, e2]; rfl
    · cases hi
  -- the flow
  have hdist : ∀ i j oi oj, i < m → j < m → ops[i]? = some oi → ops[j]? = some oj → i ≠ j → oi.dst ≠ oj.dst := by
    intro i j oi oj hi hj hoi hoj hij
    have h3 := List.all_eq_true.1 hflow j (List.mem_range.2 hj)
    rw [hoj] at h3
    have h4 := List.all_eq_true.1 h3 i (List.mem_range.2 hi)
    rw [hoi] at h4
    simp only [Bool.and_eq_true, Bool.or_eq_true, Nat.beq_eq, Bool.not_eq_true'] at h4
    rcases h4.1 with h5 | h5
    · exact absurd h5 hij
    · intro e; rw [e] at h5; simp at h5
  have hdep : ∀ i j oi oj t, i < m → j < m → ops[i]? = some oi → ops[j]? = some oj → t ∈ seesT ops oj → oi.dst = some t → i < j ∧ ∃ e ∈ oj.after, e.on = i ∧ Region.binds .any e = true := by
    intro i j oi oj t hi hj hoi hoj ht hd
    have h3 := List.all_eq_true.1 hflow j (List.mem_range.2 hj)
    rw [hoj] at h3
    have h4 := List.all_eq_true.1 h3 i (List.mem_range.2 hi)
    rw [hoi] at h4
    simp only [Bool.and_eq_true] at h4
    have h5 := List.all_eq_true.1 h4.2 t ht
    rw [hd] at h5
    simp only [beq_self_eq_true, Bool.not_true, Bool.false_or, Bool.and_eq_true] at h5
    refine ⟨by simpa using h5.1, ?_⟩
    obtain ⟨e, he, h6⟩ := Array.any_eq_true'.1 h5.2
    simp only [Bool.and_eq_true, Nat.beq_eq] at h6
    exact ⟨e, he, h6.1, h6.2⟩
  let W := w.drew
  have hsim : Sim w0 X n σ β a W := ⟨h.sz, h.df, h.bel.then ((Below.refl _ _).drew), fun s => RepV.keep (.of_below ((Below.refl _ _).drew) fun _ _ h => h) _ _ _ (h.fr s), fun i o ho => (h.own i o ho).keep (.of_below ((Below.refl _ _).drew) fun _ _ h => h) fun _ _ => rfl, h.new, h.inj, h.lt, h.fix, h.hb⟩
  let I : Array Bool → Act → World → Prop := fun listed a' w' =>
    a'.tmps.size = n ∧ a'.defers = X.D ∧ Below W.heap.size W w' ∧ (∀ s, (∀ i o, i < m → ops[i]? = some o → o.dst ≠ some s) → a'.tmps.getD s undef = a.tmps.getD s undef) ∧
    (∀ i o d q, i < m → ops[i]? = some o → o.dst = some d → rs[i]? = some q → listed.getD i false = true → RepV w' (OSet X σ.E β) β q.2.t q.2.x (a'.tmps.getD d undef)) ∧
    (∀ i o d, i < m → ops[i]? = some o → isBuild o = true → o.dst = some d → listed.getD i false = true → NewB W w' (a'.tmps.getD d undef))
  have hsum : ops.size = left (Array.replicate ops.size false) m + (ops.size - m) := by
    have : left (Array.replicate ops.size false) m = m := by
      unfold left
      have : (List.range m).filter (fun i => !(Array.replicate ops.size false).getD i false) = List.range m := by
        rw [List.filter_eq_self]
        intro i _
        rw [getD_replicate_false]
        rfl
      rw [this, List.length_range]
    omega
  have hown : ∀ w', Below W.heap.size W w' → ∀ i o, Owns.get σ.E i = some o → OwnRep w' (OSet X σ.E β) 0 (β i) o := fun w' hb i o ho =>
    (hsim.own i o ho).keep (.of_below hb fun _ _ h => h) fun g hg => hb.block g ((hsim.own i o ho).block_lt hg).2
  have hO : ∀ w', Below W.heap.size W w' → ∀ g, OSet X σ.E β g → g < w'.heap.size := fun w' hb g hg => Nat.lt_of_lt_of_le (hsim.hO hX g hg) hb.size
  suffices hkey : wpAny P .any ops R (left (Array.replicate ops.size false) m + (ops.size - m)) (Array.replicate ops.size false) a W by
    rw [← hsum] at hkey
    exact hkey
  refine wpAny_head hms hback htl I ?_ ?_ _ _ a W rfl ⟨by simp, fun j oj _ hlj => (by rw [getD_replicate_false] at hlj; cases hlj), fun t _ ht => getD_in (by simpa using ht) (getD_replicate_false _ _)⟩ ⟨h.sz, h.df, Below.refl _ _, fun _ _ => rfl, fun i o d q _ _ _ _ hli => (by rw [getD_replicate_false] at hli; cases hli), fun i o d _ _ _ _ hli => by rw [getD_replicate_false] at hli; cases hli⟩
  · -- an operation of the head comes up
    rintro listed a' w' ⟨i1, i2, i3, i4, i5, i6⟩ i him hir
    obtain ⟨hun, o', ho', hdone⟩ := mem_ready.1 hir
    obtain ⟨o, d, q, ho, hd, hdn, hq, hg⟩ := hget i him
    have : o' = o := by rw [ho] at ho'; cases ho'; rfl
    subst this
    have hops : ∀ t ∈ seesT ops o', RepV w' (OSet X σ.E β) β (Frame.get (putsF σ.F (ops.toList.take i) ((rs.map (·.2)).take i)) t).t (Frame.get (putsF σ.F (ops.toList.take i) ((rs.map (·.2)).take i)) t).x (a'.tmps.getD t undef) := fun t ht => by
      by_cases hex : ∃ k ok, k < m ∧ ops[k]? = some ok ∧ ok.dst = some t
      · obtain ⟨k, ok, hkm, hok, hkd⟩ := hex
        obtain ⟨hki, e, he, heon, heb⟩ := hdep k i ok o' t hkm him hok ho ht hkd
        have hlk := hdone e he heb
        rw [heon] at hlk
        obtain ⟨ok', dk, qk, g1, g2, g3, g4, g5⟩ := hget k hkm
        have : ok' = ok := by rw [hok] at g1; cases g1; rfl
        subst this
        have hv := putsF_at (ops.toList.take i) ((rs.map (·.2)).take i) σ.F t k ok' qk.2 (hsome i (by omega)) (by rw [List.getElem?_take, if_pos hki]; simpa using hok) hkd
          (by rw [List.getElem?_take, if_pos hki, List.getElem?_map, g4]; rfl) (fun k' o'' hkk hk' => by
            rw [List.getElem?_take] at hk'
            split at hk'
            · have := hdist k' k o'' ok' (by omega) hkm (by simpa using hk') hok (by omega)
              rw [hkd] at this; exact this
            · cases hk')
        rw [hv]
        exact i5 k ok' t qk hkm hok hkd g4 hlk
      · have hno : ∀ o ∈ ops.toList.take i, o.dst ≠ some t := by
          intro o2 ho2 hd2
          obtain ⟨k, hk⟩ := List.mem_iff_getElem?.1 ho2
          rw [List.getElem?_take] at hk
          split at hk
          · exact hex ⟨k, o2, by omega, by simpa using hk, hd2⟩
          · cases hk
        rw [putsF_other _ _ _ _ (hsome i (by omega)) hno, i4 t fun k ok hk hok hdk => hex ⟨k, ok, hk, hok, hdk⟩]
        exact RepV.keep (.of_below i3 fun _ _ h => h) _ _ _ (hsim.fr t)
    -- what the step leaves
    have hnext : ∀ u w2, Below W.heap.size W w2 → KeepsM w' w2 → RepV w2 (OSet X σ.E β) β q.2.t q.2.x u → (isBuild o' = true → NewB W w2 u) → I (listed.setIfInBounds i true) (a'.put o'.dst u) w2 := by
      intro u w2 hb hk2 hr2 hnew
      rw [hd]
      refine ⟨by rw [Act.put_size]; exact i1, by rw [Act.put_defers]; exact i2, hb, fun s hs => ?_, fun j oj dj qj hj hoj hdj hqj hlj => ?_, fun j oj dj hj hoj hbj hdj hlj => ?_⟩
      · rw [Act.put_get (by rw [i1]; exact hdn), if_neg (fun e => hs i o' him ho (by rw [hd, e]))]
        exact i4 s hs
      · rw [Act.put_get (by rw [i1]; exact hdn)]
        by_cases hji : i = j
        · subst hji
          have : oj = o' := by rw [ho] at hoj; cases hoj; rfl
          subst this
          have : dj = d := by rw [hd] at hdj; cases hdj; rfl
          subst this
          have : qj = q := by rw [hq] at hqj; cases hqj; rfl
          subst this
          rw [if_pos rfl]
          exact hr2
        · have hne : d ≠ dj := fun e => hdist i j o' oj him hj ho hoj hji (by rw [hd, hdj, e])
          rw [if_neg hne]
          rw [getD_set_ne false hji] at hlj
          exact RepV.keepM hk2 _ _ _ (i5 j oj dj qj hj hoj hdj hqj hlj)
      · rw [Act.put_get (by rw [i1]; exact hdn)]
        by_cases hji : i = j
        · subst hji
          have : oj = o' := by rw [ho] at hoj; cases hoj; rfl
          subst this
          have : dj = d := by rw [hd] at hdj; cases hdj; rfl
          subst this
          rw [if_pos rfl]
          exact hnew hbj
        · have hne : d ≠ dj := fun e => hdist i j o' oj him hj ho hoj hji (by rw [hd, hdj, e])
          rw [if_neg hne]
          rw [getD_set_ne false hji] at hlj
          exact (i6 j oj dj hj hoj hbj hdj hlj).keepM hk2
    unfold wpOp
    rw [ho]
    simp only
    have hqp : allP q.1 := hps hp1 q (List.mem_of_getElem? hq)
    cases hmk : markT ops m o' with
    | none =>
      have hg' : gOp K n ops σ.E (putsF σ.F (ops.toList.take i) ((rs.map (·.2)).take i)) o' = some q := by
        unfold hOp at hg
        rw [hmk] at hg
        exact hg
      cases hbd : isBuild o' with
      | false =>
        refine gOp_wp hK (hX.2.2 w' (hsim.bel.then i3)) (hO w' i3) (hown w' i3) hg' hqp i1 hops fun u w2 hb2 hr2 => ?_
        exact hnext u w2 (i3.trans (hb2.mono i3.size)) (.of_below hb2) hr2 (fun h => by rw [hbd] at h; cases h)
      | true =>
        refine build_wp hK (hO w' i3) hg' hbd hqp i1 hops fun u w2 hb2 hr2 hn2 => ?_
        exact hnext u w2 (i3.trans (hb2.mono i3.size)) (.of_below hb2) hr2 (fun _ => hn2.from i3.size)
    | some st =>
      obtain ⟨s, t⟩ := st
      obtain ⟨hop, jb, ob, hjm, hob, hbb, hbt⟩ := markT_spec hmk
      have htm : t ∈ seesT ops o' := by
        unfold seesT
        refine List.mem_append.2 (.inl (List.mem_filterMap.2 ⟨.tmp t, ?_, rfl⟩))
        rw [hop]
        simp [Op.operands]
      obtain ⟨_, e, he, heon, heb⟩ := hdep jb i ob o' t hjm him hob ho htm hbt
      have hlb := hdone e he heb
      rw [heon] at hlb
      have hnb := i6 jb ob t hjm hob hbb hbt hlb
      exact mark_wp hK hmk hg hqp i1 hops i3.size hnb fun u w2 hb2 hk2 hr2 => hnext u w2 (hb2.trans' i3) hk2 hr2 (fun h => by rw [isBuild, hop] at h; cases h)
  · -- the tail
    rintro listed a' w' inv hall ⟨i1, i2, i3, i4, i5, _⟩
    have hlist : listed = (List.replicate m true ++ List.replicate (ops.size - m) false).toArray := by
      apply Array.ext
      · rw [inv.size]; simp; omega
      · intro i h1 h2
        rw [inv.size] at h1
        by_cases him : i < m
        · have := hall i him
          simp only [Array.getD, show i < listed.size by rw [inv.size]; exact h1, dif_pos] at this
          have e : listed[i] = true := this
          rw [e]
          simp [List.getElem_append, him]
        · have := inv.tail i (by omega) h1
          have := getD_both this
          simp only [Array.getD, show i < listed.size by rw [inv.size]; exact h1, dif_pos] at this
          have e : listed[i] = false := this
          rw [e]
          simp [List.getElem_append, him]
    subst hlist
    have hfin : Sim w0 X n r1.2 β a' w' := by
      rw [hr1]
      refine ⟨i1, i2, hsim.bel.then i3, fun s => ?_, hown w' i3, hsim.new, hsim.inj, hsim.lt, hsim.fix, fun s => ?_⟩
      · show RepV w' (OSet X σ.E β) β (Frame.get (putsF σ.F (ops.toList.take m) (rs.map (·.2))) s).t _ _
        by_cases hex : ∃ k ok, k < m ∧ ops[k]? = some ok ∧ ok.dst = some s
        · obtain ⟨k, ok, hkm, hok, hkd⟩ := hex
          obtain ⟨ok', dk, qk, g1, g2, g3, g4, g5⟩ := hget k hkm
          have : ok' = ok := by rw [hok] at g1; cases g1; rfl
          subst this
          have hv := putsF_at (ops.toList.take m) (rs.map (·.2)) σ.F s k ok' qk.2 (hsome m (Nat.le_refl _)) (by rw [List.getElem?_take, if_pos hkm]; simpa using hok) hkd
            (by rw [List.getElem?_map, g4]; rfl) (fun k' o'' hkk hk' => by
              rw [List.getElem?_take] at hk'
              split at hk'
              · have := hdist k' k o'' ok' (by omega) hkm (by simpa using hk') hok (by omega)
                rw [hkd] at this; exact this
              · cases hk')
          rw [hv]
          exact i5 k ok' s qk hkm hok hkd g4 (hall k hkm)
        · have hno : ∀ o ∈ ops.toList.take m, o.dst ≠ some s := by
            intro o2 ho2 hd2
            obtain ⟨k, hk⟩ := List.mem_iff_getElem?.1 ho2
            rw [List.getElem?_take] at hk
            split at hk
            · exact hex ⟨k, o2, by omega, by simpa using hk, hd2⟩
            · cases hk
          rw [putsF_other _ _ _ _ (hsome m (Nat.le_refl _)) hno, i4 s fun k ok hk hok hdk => hex ⟨k, ok, hk, hok, hdk⟩]
          exact RepV.keep (.of_below i3 fun _ _ h => h) _ _ _ (hsim.fr s)
      · show (Frame.get (putsF σ.F (ops.toList.take m) (rs.map (·.2))) s).bound ≤ σ.nx
        have hbd : ∀ k, k ≤ m → ∀ s, (Frame.get (putsF σ.F (ops.toList.take k) ((rs.map (·.2)).take k)) s).bound ≤ σ.nx := by
          intro k
          induction k with
          | zero => intro _ s; simpa [putsF] using hsim.hb s
          | succ k ih =>
            intro hk s
            obtain ⟨o, d, q, e1, e2, e3, e4, e5⟩ := hget k (by omega)
            have hb := hOp_bound e5 (ih (by omega)) hsim.lt
            by_cases hsd : o.dst = some s
            · have hv := putsF_at (ops.toList.take (k + 1)) ((rs.map (·.2)).take (k + 1)) σ.F s k o q.2 (hsome (k + 1) hk) (by rw [List.getElem?_take, if_pos (by omega)]; simpa using e1) hsd
                (by rw [List.getElem?_take, if_pos (by omega), List.getElem?_map, e4]; rfl) (fun k' o'' hkk hk' => by
                  rw [List.getElem?_take] at hk'
                  split at hk'
                  · omega
                  · cases hk')
              rw [hv]
              exact hb
            · by_cases hex : ∃ k' ok, k' < k ∧ ops[k']? = some ok ∧ ok.dst = some s
              · obtain ⟨k', ok, hk', hok, hkd⟩ := hex
                obtain ⟨ok', dk, qk, g1, g2, g3, g4, g5⟩ := hget k' (by omega)
                have : ok' = ok := by rw [hok] at g1; cases g1; rfl
                subst this
                have both : ∀ j, k' < j → j ≤ m → Frame.get (putsF σ.F (ops.toList.take j) ((rs.map (·.2)).take j)) s = qk.2 := fun j hj hjm =>
                  putsF_at _ _ σ.F s k' ok' qk.2 (hsome j hjm) (by rw [List.getElem?_take, if_pos hj]; simpa using hok) hkd
                    (by rw [List.getElem?_take, if_pos hj, List.getElem?_map, g4]; rfl) (fun k2 o'' hkk hk2 => by
                      rw [List.getElem?_take] at hk2
                      split at hk2
                      · have := hdist k2 k' o'' ok' (by omega) (by omega) (by simpa using hk2) hok (by omega)
                        rw [hkd] at this; exact this
                      · cases hk2)
                rw [both (k + 1) (by omega) hk, ← both k hk' (by omega)]
                exact ih (by omega) s
              · have hno : ∀ o ∈ ops.toList.take (k + 1), o.dst ≠ some s := by
                  intro o2 ho2 hd2
                  obtain ⟨k2, hk2⟩ := List.mem_iff_getElem?.1 ho2
                  rw [List.getElem?_take] at hk2
                  split at hk2
                  · have hk2' : ops[k2]? = some o2 := by simpa using hk2
                    by_cases hkk : k2 = k
                    · subst hkk
                      rw [e1] at hk2'
                      cases hk2'
                      exact hsd hd2
                    · exact hex ⟨k2, o2, by omega, hk2', hd2⟩
                  · cases hk2
                rw [putsF_other _ _ _ _ (hsome (k + 1) hk) hno]
                exact hsim.hb s
        have := hbd m (Nat.le_refl _) s
        rwa [List.take_of_length_le (l := rs.map (·.2)) (by simp [hl])] at this
    have hlt : (ops.toList.drop m).length = ops.size - m := by simp
    have := wpAny_of_seq (P := P) (md := .any) (Q' := R) (ops := ops) (ops.toList.drop m) m (List.replicate m true ++ List.replicate (ops.size - m) false).toArray a' w' (fun j => by simp [List.getElem?_drop]) (by rw [hlt]; exact hseq) (aSeq_wp hK hX _ hfin h2 hp2 hR)
    rwa [hlt] at this
end
end Go.Proofs.YtpepbnieocdpbaaDoor
