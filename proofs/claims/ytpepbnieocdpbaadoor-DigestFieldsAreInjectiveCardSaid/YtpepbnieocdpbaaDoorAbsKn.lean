/-
  What is known of a program, out of closed tests. No program is read here.
-/
import Derived.Test.YtpepbnieocdpbaaDoorAbsCode
namespace Go.Proofs.YtpepbnieocdpbaaDoor
open Go Go.RowKit
set_option linter.unusedSimpArgs false
set_option linter.unusedVariables false

def tblB (P : Program) : Tbl → Bool
  | [] => true
  | (t, τ) :: r => layB P τ (.inl t) && tblB P r
def cmpT (P : Program) (T : Tbl) : List TypeId → Bool
  | [] => true
  | t :: r => !P.eqGuardType P.depth t && (match tget T t with | some τ => Cmp P τ (.inl t) && Nat.ble τ.depth 10000 | none => true) && cmpT P T r
def elemB (P : Program) : UTbl → Bool
  | [] => true
  | (t, e) :: r => (match P.underlying t with | some (.slice e') => Nat.beq e e' | _ => false) && elemB P r
theorem tblB_ok {P : Program} {T : Tbl} (h : tblB P T = true) : ∀ t τ, tget T t = some τ → Lay P τ (.inl t) := by
  induction T with
  | nil => intro t τ h; cases h
  | cons p r ih =>
    obtain ⟨s, σ⟩ := p
    intro t τ ht
    simp only [tblB, Bool.and_eq_true] at h
    simp only [tget, cond_eq_ite, Nat.beq_eq] at ht
    split at ht
    · rename_i e; cases ht; exact e ▸ layB_ok _ _ h.1
    · exact ih h.2 t τ ht
theorem cmpT_ok {P : Program} {T : Tbl} {Q : List TypeId} (h : cmpT P T Q = true) : ∀ t, Q.any (Nat.beq t) = true → P.eqGuardType P.depth t = false ∧ ∀ τ, tget T t = some τ → Cmp P τ (.inl t) = true ∧ τ.depth ≤ 10000 := by
  induction Q with
  | nil => intro t h; cases h
  | cons s r ih =>
    intro t ht
    simp only [cmpT, Bool.and_eq_true, Bool.not_eq_true'] at h
    simp only [List.any_cons, Bool.or_eq_true, Nat.beq_eq] at ht
    rcases ht with rfl | ht
    · refine ⟨h.1.1, fun τ hτ => ?_⟩
      have := h.1.2
      rw [hτ] at this
      simp only [Bool.and_eq_true, Nat.ble_eq] at this
      exact this
    · exact ih h.2 t ht
theorem elemB_ok {P : Program} {U : UTbl} (h : elemB P U = true) : UOk P U := by
  induction U with
  | nil => intro t e h; cases h
  | cons p r ih =>
    obtain ⟨s, e'⟩ := p
    intro t e ht
    simp only [elemB, Bool.and_eq_true] at h
    simp only [uget, cond_eq_ite, Nat.beq_eq] at ht
    split at ht
    · rename_i hs
      cases ht
      subst hs
      have h1 := h.1
      split at h1
      · rename_i e2 h2
        rw [h2, Nat.eq_of_beq_eq_true h1]
      · cases h1
    · exact ih h.2 t e ht
theorem tok_of {P : Program} {T : Tbl} {Q : List TypeId} (h : tblB P T = true) (hq : cmpT P T Q = true) : TOk P T Q := ⟨tblB_ok h, cmpT_ok hq⟩
theorem CsOk.nil {P : Program} {G : World → Prop} : CsOk P G [] := fun f c h => by cases h
theorem CsOk.cons {P : Program} {G : World → Prop} {f : FuncId} {c : Ctr} {C : Ctrs} (h : CtrOk P G f c) (hC : CsOk P G C) : CsOk P G ((f, c) :: C) := by
  intro g d hg
  simp only [cget, cond_eq_ite, Nat.beq_eq] at hg
  split at hg
  · rename_i e; cases hg; exact e ▸ h
  · exact hC g d hg
theorem KnOk.with {P : Program} {G : World → Prop} {K : Kn} (h : KnOk P G K) {C : Ctrs} (hC : CsOk P G C) : KnOk P G { K with C := C } := ⟨h.t, h.u, hC, h.st⟩
theorem inR_small {n : Int} (h1 : -9223372036854775808 ≤ n) (h2 : n ≤ 9223372036854775807) : inR .i64 n := inR64.2 ⟨h1, h2⟩
theorem done1 {T : Tbl} {r : ResultVar} {σ : AS} {t : Ty} {x y : t.T} {p : List Prop} {v : V} (h : rOf T σ r = some (p, v)) (hp : allP p) (ht : t.data = true) (hc : coe t (dat σ.E v) = some y) (hxy : y = x) : Done T [r] σ none t x :=
  ⟨p, v, h, hp, ht, hxy ▸ hc⟩
theorem done2 {T : Tbl} {rs : List ResultVar} {σ : AS} {t : Ty} {x y : t.T} {p : List Prop} (hl : rs.length ≠ 1) (ht : t.tupData = true) (h : resOf T σ rs t = some (p, y)) (hp : allP p) (hxy : y = x) : Done T rs σ none t x := by
  match rs, hl, h with
  | [], hl, h => exact ⟨hl, ht, p, hxy ▸ h, hp⟩
  | [_], hl, _ => exact (hl rfl).elim
  | _ :: _ :: _, hl, h => exact ⟨hl, ht, p, hxy ▸ h, hp⟩
theorem doneO {T : Tbl} {s : Nat} {σ : AS} {τ τ' : Ty} {te : TypeId} {i : Nat} {xs ys : List τ.T} (h : Frame.get σ.F s = ⟨.obuf τ', i⟩) (he : Owns.get σ.E i = some (.buf te τ xs)) (hxy : xs = ys) : Done T [.tmp s] σ (some te) (.slice τ) ys :=
  ⟨τ, τ', i, xs, h, he, by rw [hxy]⟩
theorem boxEq {t : Ty} {x y : t.T} (h : x = y) : some (OObj.box t x) = some (OObj.box t y) := by rw [h]
theorem bufEq {te : TypeId} {t : Ty} {x y : List t.T} (h : x = y) : some (OObj.buf te t x) = some (OObj.buf te t y) := by rw [h]
theorem vSucc (k : Nat) : (⟨.int .i64, ((k : Int) + 1 : Int)⟩ : V) = ⟨.int .i64, (((k + 1 : Nat) : Int) : Int)⟩ := rfl
theorem inR_succ {k : Nat} (h : k < 9223372036854775807) : inR .i64 ((k : Int) + 1) := inR_small (by omega) (by omega)
theorem V.congr {t : Ty} {x y : t.T} (h : x = y) : (⟨t, x⟩ : V) = ⟨t, y⟩ := by rw [h]
end Go.Proofs.YtpepbnieocdpbaaDoor
