/-
  Regions on plain states, drawn or not. No program is read here.
-/
import Derived.Test.YtpepbnieocdpbaaDoorAbsKeepM
namespace Go.Proofs.YtpepbnieocdpbaaDoor
open Go Go.RowKit
set_option linter.unusedSimpArgs false
set_option linter.unusedVariables false

section
variable {P : Program} {K : Kn} {w0 : World} {X : Ownr} {n : Nat} {σ : AS} {β : Nat → Value} {a : Act} {w : World} {N : Act → World → Prop} {R : Exit → Act → World → Prop} {ops : Array Oper}

def asB : Value → Option Bool
  | .bool b => some b
  | _ => none
theorem yielded_of {j dj : Nat} (hj : (ops[j]?).bind (·.dst) = some dj) (hd : dj < a.tmps.size) : yielded ops a.tmps j = asB (a.tmps.getD dj undef) := by
  unfold yielded
  rw [hj]
  simp only [Option.bind_some]
  have : a.tmps[dj]? = some (a.tmps.getD dj undef) := by simp [Array.getD, hd]
  rw [this]
  cases a.tmps.getD dj undef <;> rfl
theorem gcond_wanted {O : Nat → Prop} {v : V} {want c : Bool} (h : gcond v want = some c) {u : Value} (hr : RepV w O β v.t v.x u) : (asB u == some want) = c := by
  obtain ⟨t, x⟩ := v
  unfold gcond at h
  split at h
  · rename_i b hb
    obtain ⟨rfl, hb⟩ := V.mk.inj hb
    cases hb
    cases h
    have hr : RepV w O β .bool c u := hr
    have := RepV.bool hr
    subst this
    cases c <;> rfl
  · rename_i b hb
    obtain ⟨rfl, hb⟩ := V.mk.inj hb
    cases hb
    cases h
    have hr : RepV w O β .bool b u := hr
    have := RepV.bool hr
    subst this
    cases b <;> rfl
  · rename_i x1 x2 hb
    obtain ⟨rfl, hb⟩ := V.mk.inj hb
    cases hb
    cases h
    have hr : RepV w O β (.cond .bool) (x1, x2) u := hr
    cases x1 with
    | true =>
      have := RepV.bool (hr.1 rfl)
      subst this
      cases x2 <;> rfl
    | false =>
      have := hr.2 rfl
      subst this
      rfl
  · rename_i x1 x2 hb
    obtain ⟨rfl, hb⟩ := V.mk.inj hb
    cases hb
    cases h
    have hr : RepV w O β (.cond .bool) (x1, x2) u := hr
    cases x1 with
    | true =>
      have := RepV.bool (hr.1 rfl)
      subst this
      cases x2 <;> rfl
    | false =>
      have := hr.2 rfl
      subst this
      rfl
  · cases h
theorem condV_rep {O : Nat → Prop} {c : Bool} {v : V} {u : Value} (h : c = true → RepV w O β v.t v.x u) (h' : c = false → u = undef) : RepV w O β (condV c v).t (condV c v).x u := by
  obtain ⟨t, x⟩ := v
  cases t <;> first
    | exact ⟨h, h'⟩
    | skip
  rename_i t
  have e : condV c ⟨.cond t, x⟩ = ⟨.cond t, (c && x.1, x.2)⟩ := rfl
  rw [e]
  refine ⟨fun hc => ?_, fun hc => ?_⟩
  · have hc : (c && x.1) = true := hc
    simp only [Bool.and_eq_true] at hc
    exact (h hc.1).1 hc.2
  · have hc : (c && x.1) = false := hc
    cases hcc : c with
    | false => exact h' hcc
    | true => rw [hcc, Bool.true_and] at hc; exact (h hcc).2 hc
theorem gOp_wp {G : World → Prop} (hK : KnOk P G K) (hG : G w) {O : Nat → Prop} {B : Nat} (hO : ∀ g, O g → g < w.heap.size) {E : Owns} (hown : ∀ i o, Owns.get E i = some o → OwnRep w O B (β i) o) {F : Frame} {o : Oper} {r : List Prop × V} (h : gOp K n ops E F o = some r) (hp : allP r.1) (hsz : a.tmps.size = n)
    (hops : ∀ t ∈ seesT ops o, RepV w O β (Frame.get F t).t (Frame.get F t).x (a.tmps.getD t undef))
    (hN : ∀ u w', Below w.heap.size w w' → RepV w' O β r.2.t r.2.x u → N (a.put o.dst u) w') :
    if Region.wanted o (yielded ops a.tmps) then o.wp P a w N R ∨ (o.asks P a w ∧ LetsOut R) else N (a.put o.dst undef) w := by
  have hop2 : ∀ x ∈ o.op.operands, RepV w O β (evO F x).t (evO F x).x (a.eval x) := fun x hx => evO_rep fun s hs => hops s (by
    unfold seesT
    refine List.mem_append.2 (.inl (List.mem_filterMap.2 ⟨x, by simpa using hx, ?_⟩))
    rw [hs])
  unfold gOp at h
  cases hg : o.guard with
  | none =>
    rw [hg] at h
    simp only at h
    split at h <;> first | (cases h; done) | skip
    rename_i p t x h1
    have h2 := h
    split at h2
    · cases h2
      simp only [Region.wanted, hg, if_true]
      exact .inl (cOp_wp hK.t hK.c hG hO hown h1 hp hop2 hN)
    · cases h2
  | some g =>
    obtain ⟨j, want⟩ := g
    rw [hg] at h
    simp only at h
    split at h
    · rename_i dj hdj
      split at h
      · rename_i hlt
        split at h <;> first | (cases h; done) | skip
        rename_i c p v h1 h3
        have h4 := h
        split at h4
        · cases h4
        · have h4 := impV_some h4
          subst h4
          have hlt' : dj < n := by simpa using hlt
          have hrep := hops dj (by unfold seesT; rw [hg]; simp [hdj])
          have hw : Region.wanted o (yielded ops a.tmps) = c := by
            unfold Region.wanted
            rw [hg]
            simp only
            rw [yielded_of hdj (by rw [hsz]; exact hlt')]
            exact gcond_wanted h1 hrep
          rw [hw]
          cases hc : c with
          | true =>
            rw [if_pos rfl]
            refine .inl (cOp_wp hK.t hK.c hG hO hown h3 (allP_impP hp hc) hop2 fun u w' hb hr => hN u w' hb (condV_rep (fun _ => hr) (fun h0 => ?_)))
            rw [hc] at h0; cases h0
          | false =>
            rw [if_neg (by simp)]
            exact hN undef w (Below.refl _ _) (condV_rep (fun h0 => by rw [hc] at h0; cases h0) fun _ => rfl)
      · cases h
    · cases h
theorem condV_bound {c : Bool} {v : V} (h : v.t.hand = false) : (condV c v).bound = 0 := by
  obtain ⟨t, x⟩ := v
  cases t <;> first | exact bnd_hand _ _ h | rfl
theorem gOp_bound {E : Owns} {F : Frame} {o : Oper} {r : List Prop × V} (h : gOp K n ops E F o = some r) {m : Nat} (hF : ∀ s, (Frame.get F s).bound ≤ m) (hE : ∀ i o, Owns.get E i = some o → i < m) : r.2.bound ≤ m := by
  unfold gOp at h
  split at h
  · split at h <;> first | (cases h; done) | skip
    rename_i p t x h1
    have h2 := h
    split at h2
    · rename_i hh
      cases h2
      cases hr : t.hand with
      | false => show bnd t x ≤ m; rw [bnd_hand _ _ hr]; exact Nat.zero_le _
      | true =>
        rw [hr] at hh
        have hp : pOp K.T K.Q E F o.op = some (p, ⟨t, x⟩) := by
          unfold cOp at h1
          split at h1
          · rename_i heq
            rw [heq] at hh
            cases hh
          · exact h1
        exact pOp_bound hp (by show (!t.hand || handsOn o.op) = true; rw [hr]; exact hh) hF hE
    · cases h2
  · split at h
    · split at h
      · split at h <;> first | (cases h; done) | skip
        rename_i c p v h1 h3
        have h4 := h
        split at h4
        · cases h4
        · rename_i hh
          have h4 := impV_some h4
          subst h4
          have := condV_bound (c := c) (v := v) (by simpa using hh)
          show (condV c v).bound ≤ m
          omega
      · cases h
    · cases h
/-- one operation in the text's order -/
theorem aStep_wp (hK : KnOk P X.G K) (hX : X.Ok w0) (h : Sim w0 X n σ β a w) {o : Oper} {r : List Prop × AS} (hs : aStep K n ops o σ = some r) (hp : allP r.1)
    (hN : ∀ β' a' w', Sim w0 X n r.2 β' a' w' → N a' w') : if Region.wanted o (yielded ops a.tmps) then o.wp P a w N R ∨ (o.asks P a w ∧ LetsOut R) else N (a.put o.dst undef) w := by
  unfold aStep at hs
  split at hs
  · rename_i hg
    simp only [Region.wanted, hg, if_true]
    split at hs
    · rename_i r' hm
      cases hs
      exact .inl (markS_wp hK hX h hm hp hN)
    · exact .inl (doStep_wp hK hX (h.frzs hX _) hs hp hN)
  · split at hs
    · rename_i d F E nx hd
      split at hs
      · rename_i hlt
        split at hs <;> first | (cases hs; done) | skip
        rename_i p t x h1
        cases hs
        have hlt' : d < n := by simpa using hlt
        refine gOp_wp hK (hX.2.2 w h.bel) (h.hO hX) h.own h1 hp h.sz (fun t _ => h.fr t) fun u w' hb hr => ?_
        rw [hd]
        exact hN β _ _ (h.puts hb hr (gOp_bound h1 h.hb h.lt) hlt')
      · cases hs
    · cases hs
theorem aSeq_wp (hK : KnOk P X.G K) (hX : X.Ok w0) : ∀ (l : List Oper) {σ : AS} {β : Nat → Value} {a : Act} {w : World} {r : List Prop × AS}, Sim w0 X n σ β a w → aSeq K n ops l σ = some r → allP r.1 →
    (∀ β' a' w', Sim w0 X n r.2 β' a' w' → R .normal a' w') → wpList P ops R l a w
  | [], σ, β, a, w, r, h, hs, _, hR => by
    cases hs
    exact hR β a w h
  | o :: l, σ, β, a, w, r, h, hs, hp, hR => by
    simp only [aSeq] at hs
    split at hs <;> first | (cases hs; done) | skip
    rename_i p σ' h1
    obtain ⟨q, h3, rfl⟩ := preS_some hs
    simp only [allP_append] at hp
    exact aStep_wp hK hX h h1 hp.1 fun β' a' w' hs' => aSeq_wp hK hX l hs' h3 hp.2 hR
/-- a region in the text's order -/
theorem region_wp (hK : KnOk P X.G K) (hX : X.Ok w0) (h : Sim w0 X n σ β a w) {id : Nat} {r : List Prop × AS} (hs : aSeq K n ops ops.toList σ = some r) (hp : allP r.1)
    (hR : ∀ β' a' w', Sim w0 X n r.2 β' a' w' → R .normal a' w') : (Code.region id ops false).wp P R a w := by
  refine wp_region ?_
  have := wpOps_eq_wpList (P := P) (ops := ops) (Q := R) ops.toList 0 (fun j => by simp)
  rw [List.range_eq_range']
  simp only [Array.length_toList] at this
  rw [this]
  exact aSeq_wp hK hX _ h hs hp hR
end
end Go.Proofs.YtpepbnieocdpbaaDoor
