/-
  Package policy: Parse.
-/
import Derived.Test.YthkhgpbjfcmopaaGreatDoorPPrgR
namespace Go.Proofs.YthkhgpbjfcmopaaGreatDoor
open Go Go.RowKit
set_option linter.unusedSimpArgs false
set_option linter.unusedVariables false
set_option linter.unusedSimpArgs false
set_option linter.unusedVariables false
attribute [local go_sem] Oper.semAt_some
set_option maxRecDepth 100000
section
variable {w w5 : World} {O : Nat → Prop} {N : Nat} {s : List UInt8} {t0 t1 t2 t3 : TypeId} {a5 : Act}
def nA : Act := { tmps := #[], defers := [] }
/-- the state behind k lines -/
def pJ (w5 : World) (O : Nat → Prop) (N : Nat) (s : List UInt8) (k : Nat) (W : World) : Prop := ∃ (B : World) (β : Nat → Value) (acc : List Gt) (i : Nat), pBB w5 N B ∧ Sim B (XP (pO O N w5.heap.size) (pFix N) [] none) 0 ⟨[], sPE i acc, 5⟩ β nA W ∧ acc.length ≤ 64 ∧ k ≤ (segs s).length ∧ i + total ((segs s).drop k) ≤ s.length + 1 ∧ pK0 ((segs s).drop k) i acc.length acc = parseS s
def pJp (w5 : World) (O : Nat → Prop) (N : Nat) (s : List UInt8) (ch : List PanicEntry) (W : World) : Prop := ∃ (er : Int × Int) (B : World) (β : Nat → Value) (acc : List Gt) (i : Nat), ch = [{ v := pv er, recovered := false }] ∧ parseS s = ([], er.1, er.2) ∧ pBB w5 N B ∧ Sim B (XP (pO O N w5.heap.size) (pFix N) [] none) 0 ⟨[], sPE i acc, 5⟩ β nA W
theorem sim_slots {i : Nat} {acc : List Gt} {B W : World} {O' : Nat → Prop} {D D' : List Deferred} {ρ ρ' : Option Nat} {n : Nat} {σ : AS} {β : Nat → Value} {a a' : Act} (h : Sim B (XP O' (pFix N) D ρ) n σ β a W) (hE : σ.E = sPE i acc) (hnx : σ.nx = 5) {y : List UInt8} (hsz : a'.tmps.size = 42) (hdf : a'.defers = D')
    (e2 : a'.tmps.getD 2 undef = .pointer (some ⟨N, 0, none⟩)) (e3 : a'.tmps.getD 3 undef = .pointer (some ⟨N + 1, 0, none⟩)) (e4 : a'.tmps.getD 4 undef = .pointer (some ⟨N + 1 + 1, 0, none⟩)) (e5 : a'.tmps.getD 5 undef = .pointer (some ⟨N + 1 + 1 + 1, 0, none⟩)) (e6 : a'.tmps.getD 6 undef = .string ⟨y.toArray⟩) (hy : y.length ≤ maxLen) :
    Sim B (XP O' (pFix N) D' ρ') 42 ⟨sPF y, sPE i acc, 5⟩ β a' W := by
  obtain ⟨F, E, nx⟩ := σ
  have hE : E = sPE i acc := hE
  have hnx : nx = 5 := hnx
  subst hE; subst hnx
  have hb := fun k (hk : k < 4) => (h.fix.2 k hk).1
  exact h.act (X' := XP O' (pFix N) D' ρ') rfl rfl rfl hsz hdf (rep_cons ⟨_, hb 0 (by omega), e2⟩ (rep_cons ⟨_, hb 1 (by omega), e3⟩ (rep_cons ⟨_, hb 2 (by omega), e4⟩ (rep_cons ⟨_, hb 3 (by omega), e5⟩ (rep_cons (by rw [e6]; exact ⟨rfl, hy⟩) rep_nil))))) rfl
theorem sim_bare {B W : World} {O' : Nat → Prop} {D : List Deferred} {ρ : Option Nat} {n : Nat} {σ : AS} {β : Nat → Value} {a : Act} (h : Sim B (XP O' (pFix N) D ρ) n σ β a W) {i : Nat} {acc : List Gt} (hf : Fit σ ⟨[], sPE i acc, 5⟩) : Sim B (XP O' (pFix N) [] none) 0 ⟨[], sPE i acc, 5⟩ β nA W :=
  (h.fit hf (by show 4 ≤ 5; omega)).act (X' := XP O' (pFix N) [] none) (a' := nA) rfl rfl rfl rfl rfl (F := []) rep_nil rfl
theorem sameOn_any {B A C : World} {X X' : Ownr} {n n' : Nat} {σ σ' : AS} {β β' : Nat → Value} {a a' : Act} {I : Nat → Prop} (h : Sim B X n σ β a A) (h' : Sim B X' n' σ' β' a' C) (hR : ∀ g, X'.R g → X.R g) (hX : X.Ok B) (hI : ∀ g, I g → X g) : SameOn I B.heap.size A C :=
  ⟨h'.bel.os.trans h.bel.os.symm, h'.bel.tape.trans h.bel.tape.symm, h'.bel.output.trans h.bel.output.symm, h'.bel.size, fun k hk =>
    have hx := hX.1 k (hI k hk)
    (h'.bel.block k hx.1 fun hr => hx.2 (hR k hr)).trans (h.bel.block k hx.1 hx.2).symm⟩
set_option maxHeartbeats 1000000 in
theorem parse_range (hN : N = w.heap.size) (hO : ∀ g, O g → g < w.heap.size) (hG : pH w) (hlen : s.length ≤ 4000) (hs5 : w5.heap.size = N + 7) (hb5 : Below w.heap.size w w5)
    (b0 : w5.heap[N]? = some (.cells #[.slice none 0 0] t0 (0, 0))) (b1 : w5.heap[N + 1]? = some (.cells #[.int .i64 0] t1 (0, 0))) (b2 : w5.heap[N + 1 + 1]? = some (.cells #[.int .i64 0] t2 (0, 0))) (b3 : w5.heap[N + 1 + 1 + 1]? = some (.cells #[.int .i64 0] t3 (0, 0)))
    (i0 : w5.heap[N + 4]? = some (.cells #[.string ⟨s.toArray⟩] 9 (0, 0))) (i1 : w5.heap[N + 5]? = some (.cells #[.string ⟨#[10]⟩] 9 (0, 0))) (i2 : w5.heap[N + 6]? = some (.cells #[.int .i64 0] 3 (0, 0)))
    (hsz : a5.tmps.size = 42) (e2 : a5.tmps.getD 2 undef = .pointer (some ⟨N, 0, none⟩)) (e3 : a5.tmps.getD 3 undef = .pointer (some ⟨N + 1, 0, none⟩)) (e4 : a5.tmps.getD 4 undef = .pointer (some ⟨N + 1 + 1, 0, none⟩)) (e5 : a5.tmps.getD 5 undef = .pointer (some ⟨N + 1 + 1 + 1, 0, none⟩))
    (e15 : a5.eval (.tmp 15) = .func (.func 111) #[] #[.pointer (some ⟨N + 5, 0, none⟩), .pointer (some ⟨N + 4, 0, none⟩), .pointer (some ⟨N + 6, 0, none⟩)]) (hdf : a5.defers = [dfn N]) :
    wpFor Tryz.prog 30 (.rangeFunc (.tmp 15) #[16] pAsgn pBody) (fun e a w' => (e = .normal ∨ ∃ ch, e = .panic ch) ∧ Exit.then (wpFor Tryz.prog 30 pTail (bodyPostM Fence.wide 1 Tryz.prog Tryz.f30 (PEnds w O (parseS s)))) (bodyPostM Fence.wide 1 Tryz.prog Tryz.f30 (PEnds w O (parseS s))) e a w') a5 w5 := by
  have hP : parseS s = pK0 (segs s) 0 0 [] := by rw [parseS_eq, if_neg (by omega)]
  have hXok : ∀ B D ρ, pBB w5 N B → (XP (pO O N w5.heap.size) (pFix N) D ρ).Ok B := fun B D ρ h => pX_ok hN hO hG hs5 hb5 h D ρ
  have hsame : ∀ {B A C : World} {ρ ρ' : Option Nat} {D D' : List Deferred} {n n' : Nat} {σ σ' : AS} {β β' : Nat → Value} {a a' : Act}, pBB w5 N B → Sim B (XP (pO O N w5.heap.size) (pFix N) D ρ) n σ β a A → Sim B (XP (pO O N w5.heap.size) (pFix N) D' ρ') n' σ' β' a' C → SameOn (pI2 N w5.heap.size) (w5.heap.size + 2) A C := fun hBB h h' => by
    have := sameOn_any h h' (fun g hr => hr) (hXok _ _ _ hBB) (I := pI2 N w5.heap.size) (fun g hg => .inr hg)
    rwa [hBB.1] at this
  refine wpFor_rangePan (m := 1) ⟨_, Tryz.func30⟩ e15 Tryz.call111 (splitIt_seq (N + 4) (N + 5) (N + 6) s w5 (by omega) (by omega) i0 i1 i2) (Below.refl _ _) ?_ (pJ w5 O N s) (pJp w5 O N s) ?_ ?_ (rActP a5) ?_ ?_ ?_ ?_
  · intro k hk
    have hk : k = N + 4 ∨ k = N + 5 ∨ k = N + 6 := hk
    omega
  · rintro k A C ⟨B, β, acc, i, hBB, hS, h1, h2, h3, h4⟩ hk
    obtain ⟨B', hs', hk', hS'⟩ := hS.outside (hXok _ _ _ hBB) (I := pI2 N w5.heap.size) (fun g hg => .inr hg) hk
    exact ⟨B', β, acc, i, ⟨hs'.trans hBB.1, hBB.2.trans hk'⟩, hS', h1, h2, h3, h4⟩
  · intro W1 hb hs1
    have hBB : pBB w5 N W1 := ⟨hs1, ⟨hb.os, hb.tape, hb.output, hb.size, fun k hk _ => hb.block k hk⟩⟩
    have hl : ∀ g (o : Obj), w5.heap[g]? = some o → W1.heap[g]? = some o := fun g o hg => (hb.block g (Array.getElem?_eq_some_iff.1 hg).1).trans hg
    let β : Nat → Value := fun i => .pointer (some ⟨pFix N i, 0, none⟩)
    have hS0 : Sim W1 (XP (pO O N w5.heap.size) (pFix N) [] none) 0 ⟨[], [(0, some (.hbox [⟨.lit, .slice none 0 0⟩])), (1, some (.box i64 (0 : Int))), (2, some (.box i64 (0 : Int))), (3, some (.box i64 (0 : Int)))], 4⟩ β nA W1 := by
      refine Sim.boxes (X := XP (pO O N w5.heap.size) (pFix N) [] none) rfl rfl (fun i _ => rfl) ?_ ?_ rep_nil rfl
      · intro i j hi hj hij
        have hi : i < 4 := hi
        have hj : j < 4 := hj
        have hij : pFix N i = pFix N j := hij
        unfold pFix fixP at hij
        rcases (show i = 0 ∨ i = 1 ∨ i = 2 ∨ i = 3 by omega) with rfl | rfl | rfl | rfl <;> rcases (show j = 0 ∨ j = 1 ∨ j = 2 ∨ j = 3 by omega) with rfl | rfl | rfl | rfl <;> first | rfl | (exfalso; simp at hij; done) | (exfalso; simp at hij; omega)
      · intro i o h
        rw [Owns.get_cons] at h
        split at h
        · rename_i hi; subst hi; cases h
          exact ⟨by show 0 < 4; omega, rfl, ⟨N, [_], _, rfl, Nat.zero_le _, hl _ _ b0, _, [], rfl, rfl, rfl, rfl⟩, fun vs e v hv => by cases e; rw [List.mem_singleton] at hv; subst hv; exact Nat.zero_le _⟩
        rw [Owns.get_cons] at h
        split at h
        · rename_i _ hi; subst hi; cases h
          exact ⟨by show 1 < 4; omega, rfl, ⟨N + 1, [_], _, rfl, Nat.zero_le _, hl _ _ b1, rfl⟩, fun vs e => by cases e⟩
        rw [Owns.get_cons] at h
        split at h
        · rename_i _ _ hi; subst hi; cases h
          exact ⟨by show 2 < 4; omega, rfl, ⟨N + 1 + 1, [_], _, rfl, Nat.zero_le _, hl _ _ b2, rfl⟩, fun vs e => by cases e⟩
        rw [Owns.get_cons] at h
        split at h
        · rename_i _ _ _ hi; subst hi; cases h
          exact ⟨by show 3 < 4; omega, rfl, ⟨N + 1 + 1 + 1, [_], _, rfl, Nat.zero_le _, hl _ _ b3, rfl⟩, fun vs e => by cases e⟩
        · cases h
    obtain ⟨β', hβ1, hβ2, hS1⟩ := hS0.growNil 49 gr (by decide)
    have hS2 := hS1.leaf (i := 0) (k := 0) (vs := [⟨.lit, .slice none 0 0⟩]) (v' := ⟨.obuf gr, (4 : Nat)⟩) rfl rfl (fun u hu => by
      have hu : u = .slice none 0 0 := hu
      show u = β' 4
      rw [hu]
      exact hβ2.symm) (Nat.le_refl _)
    refine ⟨W1, β', [], 0, hBB, sim_bare hS2 ⟨trivial, ⟨rfl, rfl, rfl, rfl, rfl, trivial⟩, rfl, rfl⟩, by simp, Nat.zero_le _, ?_, hP.symm⟩
    rw [List.drop_zero, segs_total]
    omega
  · intro l x W K hK
    refine wpIn_region_list ?_
    exact wpListIn_move (ρ := some l) (.inr rfl) rfl hK
  · rintro l k y W ⟨B, β, acc, i, hBB, hS, h1, h2, h3, h4⟩ hy hsz2
    obtain ⟨hkl, hyk⟩ := List.getElem?_eq_some_iff.1 hy
    have hd : (segs s).drop k = y :: (segs s).drop (k + 1) := by rw [← hyk]; exact List.drop_eq_getElem_cons hkl
    rw [hd, total] at h3
    rw [hd, pK0_step y _ i acc h1] at h4
    have hsim := sim_slots hS rfl rfl (ρ' := some l) (D' := []) (a' := rActP a5 (.string ⟨y.toArray⟩)) (y := y) (rActP_size hsz) rfl (by rw [rActP_get hsz]; exact e2) (by rw [rActP_get hsz]; exact e3) (by rw [rActP_get hsz]; exact e4) (by rw [rActP_get hsz]; exact e5) (by rw [rActP_get hsz]; rfl) (by unfold maxLen; omega)
    refine Go.wpIn_mono (pround_awp (hXok B [] (some l) hBB) (pX_pN hN hG hs5 hBB _ _ _) y i acc (by omega) (by omega) h1 (splitS_WW (by omega)) β _ W hsim) ?_
    rintro e a' W' ⟨σ', β', h', hR⟩
    have hso := hsame hBB hS h'
    cases hst : stepP y i acc with
    | error er =>
      rw [hst] at hR h4
      obtain ⟨rfl, hf⟩ := hR
      exact .inr ⟨_, rfl, h'.df, ⟨er, B, β', acc, i + y.length + 1, rfl, h4.symm, hBB, sim_bare h' hf⟩, hso⟩
    | ok acc' =>
      rw [hst] at hR h4
      obtain ⟨rfl, hf⟩ := hR
      exact .inl ⟨rfl, ⟨B, β', acc', i + y.length + 1, hBB, sim_bare h' hf, stepP_le h1 hst, hkl, by omega, h4⟩, hso⟩
  · rintro W ⟨B, β, acc, i, hBB, hS, h1, h2, h3, h4⟩ hdef
    refine ⟨.inl rfl, ?_⟩
    rw [List.drop_length, pK0_nil] at h4
    have hb := fun k (hk : k < 4) => (hS.fix.2 k hk).1
    have hsim := hS.act (X' := XP (pO O N w5.heap.size) (pFix N) [dco w5.heap.size, dfn N] none) (m := 42) (a' := { a5 with defers := { target := .collected w5.heap.size, args := #[] } :: a5.defers }) rfl rfl rfl hsz (by rw [hdf]; rfl) (F := [(2, ⟨.hptr, (0, 0)⟩), (3, ⟨.optr i64, ⟨1, i64, .here⟩⟩), (4, ⟨.optr i64, ⟨2, i64, .here⟩⟩)]) (rep_cons ⟨_, hb 0 (by omega), e2⟩ (rep_cons ⟨_, hb 1 (by omega), e3⟩ (rep_cons ⟨_, hb 2 (by omega), e4⟩ rep_nil))) rfl
    refine wpFor_of (m := 0) (Go.wpIn_mono (ptail_awp (hXok _ _ _ hBB) i acc β _ W hsim) ?_)
    rintro e a' W' ⟨σ', β', h', rfl, hf⟩
    have h6 := h'.fit hf (by show 4 ≤ 5; omega)
    have hso := hsame hBB hS h6
    obtain ⟨u, y0, q0, q1, hu⟩ := hbox_at h6 (i := 0) (by show 0 < 4; omega) rfl
    obtain ⟨c1, y1, q2, q3⟩ := box_at h6 (i := 1) (by show 1 < 4; omega) rfl
    obtain ⟨c2, y2, q4, q5⟩ := box_at h6 (i := 2) (by show 2 < 4; omega) rfl
    have q3 : c1 = [.int .i64 0] := q3
    have q5 : c2 = [.int .i64 0] := q5
    subst q3; subst q5
    have hb6 := fun k (hk : k < 4) => (h6.fix.2 k hk).1
    have k2 : a'.tmps.getD 2 undef = .pointer (some ⟨N, 0, none⟩) := by
      obtain ⟨g, r1, r2⟩ : ∃ g, blockOf (β' 0) = some g ∧ a'.tmps.getD 2 undef = .pointer (some ⟨g, 0, none⟩) := h6.fr 2
      rw [hb6 0 (by omega)] at r1
      cases r1
      exact r2
    have k3 : a'.tmps.getD 3 undef = .pointer (some ⟨N + 1, 0, none⟩) := by
      obtain ⟨g, r1, r2⟩ : ∃ g, blockOf (β' 1) = some g ∧ a'.tmps.getD 3 undef = .pointer (some ⟨g, 0, none⟩) := h6.fr 3
      rw [hb6 1 (by omega)] at r1
      cases r1
      exact r2
    have k4 : a'.tmps.getD 4 undef = .pointer (some ⟨N + 1 + 1, 0, none⟩) := by
      obtain ⟨g, r1, r2⟩ : ∃ g, blockOf (β' 2) = some g ∧ a'.tmps.getD 4 undef = .pointer (some ⟨g, 0, none⟩) := h6.fr 4
      rw [hb6 2 (by omega)] at r1
      cases r1
      exact r2
    show LeavesInM Fence.wide 1 Tryz.prog Tryz.f30 a'.tmps (PEnds w O (parseS s)) a'.defers .returning W'
    rw [h6.df, ← h4]
    exact fin_ret hN (O' := OSet (XP (pO O N w5.heap.size) (pFix N) [dco w5.heap.size, dfn N] none) (sPT acc).E β') (fun g hg => .inl (.inl hg)) (.inl (.inr (.inr (.inl rfl)))) (by omega) (pBB_end hN hs5 hb5 hBB h6.bel) ((hso.block _ (.inr (.inl rfl))).trans hdef) q1 k2 k3 k4 q0 q2 q4 hu
  · rintro ch W ⟨er, B, β, acc, i, rfl, hpe, hBB, hS⟩ hdef
    refine ⟨.inr ⟨_, rfl⟩, ?_⟩
    obtain ⟨u, y0, q0, q1, _⟩ := hbox_at hS (i := 0) (by show 0 < 4; omega) rfl
    obtain ⟨c1, y1, q2, q3⟩ := box_at hS (i := 1) (by show 1 < 4; omega) rfl
    obtain ⟨c2, y2, q4, q5⟩ := box_at hS (i := 2) (by show 2 < 4; omega) rfl
    have q3 : c1 = [.int .i64 0] := q3
    have q5 : c2 = [.int .i64 0] := q5
    subst q3; subst q5
    show LeavesInM Fence.wide 1 Tryz.prog Tryz.f30 a5.tmps (PEnds w O (parseS s)) (dco w5.heap.size :: a5.defers) (.panicking _) W
    rw [hdf, hpe]
    exact fin_pan hN (by omega) (pBB_end hN hs5 hb5 hBB hS.bel) hdef q1 e2 e3 e4 q0 q2 q4
end
end Go.Proofs.YthkhgpbjfcmopaaGreatDoor
