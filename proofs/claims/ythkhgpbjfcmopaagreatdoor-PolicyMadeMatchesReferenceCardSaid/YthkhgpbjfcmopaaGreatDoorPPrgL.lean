/-
  Package policy: the reader's method grant.
-/
import Derived.Test.YthkhgpbjfcmopaaGreatDoorPPrgK
namespace Go.Proofs.YthkhgpbjfcmopaaGreatDoor
open Go Go.RowKit
set_option linter.unusedSimpArgs false
set_option linter.unusedVariables false
set_option maxRecDepth 100000
/-- a line's grant, and the words that are left -/
def grantW (ws : List Wd) : Except (Int × Int) (Gt × List Wd) :=
  match passP ws wsA with
  | .error e => .error e
  | .ok a => match passP a.2 wsW with
    | .error e => .error e
    | .ok k => match whoP (chI wsW k.1) k.2 with
      | .error e => .error e
      | .ok w => match whatP ((chI wsA a.1 : Nat) + 1) w.2.2 with
        | .error e => .error e
        | .ok g => match passP g.2.2 wsE with
          | .error e => .error e
          | .ok x => .ok (((chI wsA a.1 : Nat) + 1, w.1, w.2.1, g.1, g.2.1, ()), x.2)
theorem grantP_W (ws : List Wd) : grantP ws = match grantW ws with | .error e => .error e | .ok y => .ok y.1 := by
  unfold grantP grantW
  cases passP ws wsA with
  | error e => rfl
  | ok a =>
    simp only
    cases passP a.2 wsW with
    | error e => rfl
    | ok k =>
      simp only
      cases whoP (chI wsW k.1) k.2 with
      | error e => rfl
      | ok w =>
        simp only
        cases whatP ((chI wsA a.1 : Nat) + 1) w.2.2 with
        | error e => rfl
        | ok g =>
          simp only
          cases passP g.2.2 wsE with
          | error e => rfl
          | ok x => rfl
/-- words of a line: the last is empty, none is long -/
def WW (ws : List Wd) : Prop := LW ws ∧ ∀ x ∈ ws, (wT x).length ≤ 100000
theorem WW.pos {ws : List Wd} (h : WW ws) : 0 < ws.length := h.1.1
theorem WW.head {ws : List Wd} (h : WW ws) : (hdT ws).length ≤ 100000 := by
  cases ws with
  | nil => exact absurd h.pos (Nat.lt_irrefl 0)
  | cons x r => exact h.2 x (List.mem_cons_self ..)
theorem WW.tail {ws : List Wd} (h : WW ws) (hn : hdT ws ≠ []) : WW ws.tail := by
  obtain ⟨⟨h1, h2⟩, h3⟩ := h
  cases ws with
  | nil => exact absurd h1 (Nat.lt_irrefl 0)
  | cons x r =>
    cases r with
    | nil => exact (hn h2).elim
    | cons y r =>
      refine ⟨⟨by simp, ?_⟩, fun z hz => h3 z (List.mem_cons_of_mem _ hz)⟩
      have e : (x :: y :: r).getD ((x :: y :: r).length - 1) zW = (y :: r).getD ((y :: r).length - 1) zW := by
        simp [List.getD_cons_succ]
      rw [e] at h2
      exact h2
theorem passP_ok {ws : List Wd} {al : List (List UInt8)} {a : List UInt8 × List Wd} (h : passP ws al = .ok a) : a.1 ∈ al ∧ a.1 = hdT ws ∧ a.2 = ws.tail := by
  unfold passP at h
  split at h
  · cases h
    exact ⟨by assumption, rfl, rfl⟩
  · cases h
theorem passP_WW {ws : List Wd} {al : List (List UInt8)} {a : List UInt8 × List Wd} (h : passP ws al = .ok a) (hw : WW ws) (hal : ∀ w ∈ al, w ≠ []) : WW a.2 := by
  obtain ⟨h1, h2, h3⟩ := passP_ok h
  rw [h3]
  exact hw.tail (h2 ▸ hal _ h1)
theorem numP_WW {ws : List Wd} {m : Int} {a : Int × List Wd} (h : numP ws m = .ok a) (hw : WW ws) : WW a.2 := by
  unfold numP at h
  split at h
  · cases h
  · rename_i h1
    split at h
    · cases h
    · cases h
      exact hw.tail fun e => h1 (by rw [e]; rfl)
theorem whoP_WW {k : Nat} {ws : List Wd} {a : Int × Int × List Wd} (h : whoP k ws = .ok a) (hw : WW ws) : WW a.2.2 := by
  unfold whoP at h
  split at h
  · cases hn : numP ws 511 with
    | error e => rw [hn] at h; cases h
    | ok x => rw [hn] at h; cases h; exact (show WW x.2 from numP_WW hn hw)
  · split at h
    · cases hn : numP ws 63 with
      | error e => rw [hn] at h; cases h
      | ok x => rw [hn] at h; cases h; exact (show WW x.2 from numP_WW hn hw)
    · cases h
      exact hw
theorem whatP_WW {k : Int} {ws : List Wd} {a : Int × Int × List Wd} (h : whatP k ws = .ok a) (hw : WW ws) : WW a.2.2 := by
  unfold whatP at h
  split at h
  · cases hg : passP ws wsG with
    | error e => rw [hg] at h; cases h
    | ok y =>
      have wy := passP_WW hg hw (by decide)
      cases hn : numP y.2 4 with
      | error e => simp only [hg, hn] at h; cases h
      | ok x => simp only [hg, hn] at h; cases h; exact (show WW x.2 from numP_WW hn wy)
  · split at h
    · cases hg : passP ws wsR with
      | error e => rw [hg] at h; cases h
      | ok y =>
        have wy := passP_WW hg hw (by decide)
        cases hn : numP y.2 100 with
        | error e => simp only [hg, hn] at h; cases h
        | ok x => simp only [hg, hn] at h; cases h; exact (show WW x.2 from numP_WW hn wy)
    · cases h
      exact hw
def actEs : List (Value × Value) := [(.string ⟨#[97, 115, 107]⟩, .int .i64 1), (.string ⟨#[98, 111, 111, 107]⟩, .int .i64 2), (.string ⟨#[109, 111, 118, 101]⟩, .int .i64 3)]
theorem act_look {w : List UInt8} (h : w ∈ wsA) : findP .string (.string ⟨w.toArray⟩) actEs = some (some (.int .i64 ((chI wsA w : Nat) + 1))) := by
  rcases List.mem_cons.1 h with rfl | h
  · rfl
  rcases List.mem_cons.1 h with rfl | h
  · rfl
  rcases List.mem_cons.1 h with rfl | h
  · rfl
  cases h
def cGrantP : PCtr := { self := rd, args := [], inv := pN, pre := fun r _ => [WW r.1], res := gr, out := fun r _ => toV (fun y => (y.1, (y.2, ()))) (grantW r.1) }
def sGP (ws : List Wd) (a p t g k : Int) : AS := ⟨[(0, ⟨.optr rd, ⟨0, rd, .here⟩⟩), (2, ⟨.optr gr, ⟨1, gr, .here⟩⟩), (4, ⟨.optr gr, ⟨3, gr, .here⟩⟩)], [(0, some (.box rd (ws, ()))), (1, some (.box gr zG)), (3, some (.box gr (a, p, t, g, k, ())))], 4⟩
theorem grant_ok : PCtrOk Tryz.prog pH 65 cGrantP := by
  refine pctr_of_awp (K := pK) hK_ok Tryz.func65 rfl rfl Tryz.call65 rfl (by decide) pN_st ?_
  rintro w0 O g hX hinv ⟨(ws : List Wd), _⟩ _ hp
  have hp : WW ws := hp
  change AWP _ _ _ _ _ ⟨[(0, ⟨.optr rd, ⟨0, rd, .here⟩⟩)], [(0, some (.box rd (ws, ())))], 1⟩ _
  have hO : ∀ y, cGrantP.out (ws, ()) y = toV (fun y => (y.1, (y.2, ()))) (grantW ws) := fun _ => rfl
  rw [hO]
  have hI := one_inv (O := O) (one_pH hX) hinv
  unfold grantW
  (repeat (first | refine AWP.seq ?_ | refine AWP.skip ?_ | refine AWP.label ?_ | refine AWP.exit ?_ | refine AWP.block ?_ | refine AWP.region hX hK_ok rfl trivial ?_ | refine AWP.region hX hK_ok rfl id ?_ | refine AWP.region hX hK_ok rfl ⟨id, id⟩ ?_))
  refine AWP.list ?_
  refine AL.mapLit hX Tryz.underlying163 Tryz.underlying9 rfl actEs (ins := [_, _, _]) rfl rfl rfl rfl (.cons rfl (fun _ => rfl) (fun _ => rfl) rfl rfl (.cons rfl (fun _ => rfl) (fun _ => rfl) rfl rfl (.cons rfl (fun _ => rfl) (fun _ => rfl) rfl rfl rfl))) ⟨rfl, rfl, rfl, trivial⟩ ?_
  refine AL.all hX hK_ok rfl trivial ?_
  (repeat (first | refine AWP.seq ?_ | refine AWP.skip ?_ | refine AWP.block ?_ | refine AWP.exit ?_)); refine AWP.list ?_
  refine AL.take 3 hX hK_ok rfl trivial ?_
  refine AL.pcall hX pass_ok (c := cPassP) (x := (ws, ())) (xs := (wsA, ())) rfl rfl rfl rfl rfl rfl rfl rfl rfl rfl trivial hp.pos hI (F' := fun _ => _) (fun _ => rfl) ?_
  show PCall _ _ _ _ _ _ _ _ _ _ _ _ _ (toV _ (passP ws wsA))
  cases pa : passP ws wsA with
  | error e => exact fun x' => ⟨rfl, x', rfl⟩
  | ok a =>
    have qa := passP_ok pa
    have wa := passP_WW pa hp (by decide)
    simp only [toV, PCall]
    refine AL.look Tryz.underlying163 Tryz.underlying9 rfl (key := .string ⟨a.1.toArray⟩) (v := .int .i64 ((chI wsA a.1 : Nat) + 1)) (es := actEs) ⟨i64, ((chI wsA a.1 : Nat) : Int) + 1⟩ rfl rfl rfl rfl rfl (key_str rfl) (act_look qa.1) (fun _ _ _ => RepV.ofInt (k := .i64)) rfl ?_
    refine AL.all hX hK_ok rfl trivial ?_
    refine AWP.fit (σ' := sGP a.2 ((chI wsA a.1 : Nat) + 1) (-1) (-1) 0 0) ⟨⟨rfl, rfl, rfl, trivial⟩, ⟨rfl, rfl, rfl, trivial⟩, rfl, rfl⟩ ?_
    unfold sGP
    (repeat (first | refine AWP.seq ?_ | refine AWP.skip ?_ | refine AWP.block ?_ | refine AWP.exit ?_)); refine AWP.list ?_
    refine AL.take 2 hX hK_ok rfl trivial ?_
    refine AL.pcall hX pass_ok (c := cPassP) (x := (a.2, ())) (xs := (wsW, ())) rfl rfl rfl rfl rfl rfl rfl rfl rfl rfl trivial wa.pos hI (F' := fun _ => _) (fun _ => rfl) ?_
    show PCall _ _ _ _ _ _ _ _ _ _ _ _ _ (toV _ (passP a.2 wsW))
    cases pk : passP a.2 wsW with
    | error e => exact fun x' => ⟨rfl, x', rfl⟩
    | ok k =>
      have qk := passP_ok pk
      have wk := passP_WW pk wa (by decide)
      simp only [toV, PCall]
      refine AL.nil ?_
      obtain ⟨kw, kr⟩ := k
      have hkw : kw = [97, 108, 108] ∨ kw = [112, 101, 114, 115, 111, 110] ∨ kw = [116, 101, 97, 109] := by
        have := qk.1
        simpa [wsW] using this
      have wk : WW kr := wk
      clear qk pk
      have nf : ∀ {x y : List UInt8}, x ≠ y → eqb .str x y = true → False := fun h h1 => h (eqb_iff.1 h1)
      have nt : ∀ {x : List UInt8}, eqb .str x x = false → False := fun h1 => by rw [eqb_iff.2 rfl] at h1; cases h1
      have h511 : allP (cNumP.pre (kr, ()) ((511 : Int), ())) := ⟨wk.pos, wk.head, (by decide : (0 : Int) ≤ 511), (by decide : (511 : Int) < 1000000)⟩
      have h63 : allP (cNumP.pre (kr, ()) ((63 : Int), ())) := ⟨wk.pos, wk.head, (by decide : (0 : Int) ≤ 63), (by decide : (63 : Int) < 1000000)⟩
      cases hW : whoP (chI wsW kw) kr with
      | error e =>
        simp only [hW]
        refine AWP.block ?_
        rcases hkw with rfl | rfl | rfl
        · cases hW
        · have hW : (match numP kr 511 with | .error e => .error e | .ok x => .ok (x.1, -1, x.2)) = (Except.error e : Except (Int × Int) (Int × Int × List Wd)) := hW
          (repeat (first | refine AWP.seq ?_ | refine AWP.skip ?_ | refine AWP.label ?_ | refine AWP.exit ?_ | refine AWP.block ?_ | refine AWP.region hX hK_ok rfl trivial ?_ | refine AWP.region hX hK_ok rfl id ?_ | refine AWP.region hX hK_ok rfl ⟨id, id⟩ ?_))
          refine AWP.cond rfl (fun hb => ?_) (fun hb => ?_)
          · refine AWP.list ?_
            refine AL.take 1 hX hK_ok rfl trivial ?_
            refine AL.pcall hX number_ok (c := cNumP) (x := (kr, ())) (xs := ((511 : Int), ())) rfl rfl rfl rfl rfl rfl rfl rfl rfl rfl trivial h511 hI (F' := fun _ => _) (fun _ => rfl) ?_
            show PCall _ _ _ _ _ _ _ _ _ _ _ _ _ (toV _ (numP kr 511))
            cases hn : numP kr 511 with
            | error e' =>
              rw [hn] at hW
              cases hW
              exact fun x' => ⟨rfl, x', rfl⟩
            | ok x => rw [hn] at hW; cases hW
          · exact (nt hb).elim
        · have hW : (match numP kr 63 with | .error e => .error e | .ok x => .ok (-1, x.1, x.2)) = (Except.error e : Except (Int × Int) (Int × Int × List Wd)) := hW
          (repeat (first | refine AWP.seq ?_ | refine AWP.skip ?_ | refine AWP.label ?_ | refine AWP.exit ?_ | refine AWP.block ?_ | refine AWP.region hX hK_ok rfl trivial ?_ | refine AWP.region hX hK_ok rfl id ?_ | refine AWP.region hX hK_ok rfl ⟨id, id⟩ ?_))
          refine AWP.cond rfl (fun hb => ?_) (fun hb => ?_)
          · exact (nf (by decide) hb).elim
          (repeat (first | refine AWP.seq ?_ | refine AWP.skip ?_ | refine AWP.label ?_ | refine AWP.exit ?_ | refine AWP.block ?_ | refine AWP.region hX hK_ok rfl trivial ?_ | refine AWP.region hX hK_ok rfl id ?_ | refine AWP.region hX hK_ok rfl ⟨id, id⟩ ?_))
          refine AWP.cond rfl (fun hb => ?_) (fun hb => ?_)
          · refine AWP.list ?_
            refine AL.take 1 hX hK_ok rfl trivial ?_
            refine AL.pcall hX number_ok (c := cNumP) (x := (kr, ())) (xs := ((63 : Int), ())) rfl rfl rfl rfl rfl rfl rfl rfl rfl rfl trivial h63 hI (F' := fun _ => _) (fun _ => rfl) ?_
            show PCall _ _ _ _ _ _ _ _ _ _ _ _ _ (toV _ (numP kr 63))
            cases hn : numP kr 63 with
            | error e' =>
              rw [hn] at hW
              cases hW
              exact fun x' => ⟨rfl, x', rfl⟩
            | ok x => rw [hn] at hW; cases hW
          · exact (nt hb).elim
      | ok w =>
        obtain ⟨wp, wt, wr⟩ := w
        simp only [hW]
        refine AWP.via (σ' := sGP wr ((chI wsA a.1 : Nat) + 1) wp wt 0 0) ?_ ?_
        · refine AWP.block ?_
          rcases hkw with rfl | rfl | rfl
          · cases hW
            (repeat (first | refine AWP.seq ?_ | refine AWP.skip ?_ | refine AWP.label ?_ | refine AWP.exit ?_ | refine AWP.block ?_ | refine AWP.region hX hK_ok rfl trivial ?_ | refine AWP.region hX hK_ok rfl id ?_ | refine AWP.region hX hK_ok rfl ⟨id, id⟩ ?_))
            refine AWP.cond rfl (fun hb => ?_) (fun hb => ?_)
            · exact (nf (by decide) hb).elim
            (repeat (first | refine AWP.seq ?_ | refine AWP.skip ?_ | refine AWP.label ?_ | refine AWP.exit ?_ | refine AWP.block ?_ | refine AWP.region hX hK_ok rfl trivial ?_ | refine AWP.region hX hK_ok rfl id ?_ | refine AWP.region hX hK_ok rfl ⟨id, id⟩ ?_))
            refine AWP.cond rfl (fun hb => ?_) (fun hb => ?_)
            · exact (nf (by decide) hb).elim
            · (repeat (first | refine AWP.seq ?_ | refine AWP.skip ?_ | refine AWP.label ?_ | refine AWP.exit ?_ | refine AWP.block ?_ | refine AWP.region hX hK_ok rfl trivial ?_ | refine AWP.region hX hK_ok rfl id ?_ | refine AWP.region hX hK_ok rfl ⟨id, id⟩ ?_))
              exact ⟨⟨rfl, rfl, rfl, trivial⟩, ⟨rfl, rfl, rfl, trivial⟩, rfl, rfl⟩
          · have hW : (match numP kr 511 with | .error e => .error e | .ok x => .ok (x.1, -1, x.2)) = (Except.ok (wp, wt, wr) : Except (Int × Int) (Int × Int × List Wd)) := hW
            (repeat (first | refine AWP.seq ?_ | refine AWP.skip ?_ | refine AWP.label ?_ | refine AWP.exit ?_ | refine AWP.block ?_ | refine AWP.region hX hK_ok rfl trivial ?_ | refine AWP.region hX hK_ok rfl id ?_ | refine AWP.region hX hK_ok rfl ⟨id, id⟩ ?_))
            refine AWP.cond rfl (fun hb => ?_) (fun hb => ?_)
            · refine AWP.list ?_
              refine AL.take 1 hX hK_ok rfl trivial ?_
              refine AL.pcall hX number_ok (c := cNumP) (x := (kr, ())) (xs := ((511 : Int), ())) rfl rfl rfl rfl rfl rfl rfl rfl rfl rfl trivial h511 hI (F' := fun _ => _) (fun _ => rfl) ?_
              show PCall _ _ _ _ _ _ _ _ _ _ _ _ _ (toV _ (numP kr 511))
              cases hn : numP kr 511 with
              | error e' => rw [hn] at hW; cases hW
              | ok x =>
                rw [hn] at hW
                cases hW
                simp only [toV, PCall]
                refine AL.all hX hK_ok rfl trivial ?_
                exact ⟨⟨rfl, rfl, rfl, trivial⟩, ⟨rfl, rfl, rfl, trivial⟩, rfl, rfl⟩
            · exact (nt hb).elim
          · have hW : (match numP kr 63 with | .error e => .error e | .ok x => .ok (-1, x.1, x.2)) = (Except.ok (wp, wt, wr) : Except (Int × Int) (Int × Int × List Wd)) := hW
            (repeat (first | refine AWP.seq ?_ | refine AWP.skip ?_ | refine AWP.label ?_ | refine AWP.exit ?_ | refine AWP.block ?_ | refine AWP.region hX hK_ok rfl trivial ?_ | refine AWP.region hX hK_ok rfl id ?_ | refine AWP.region hX hK_ok rfl ⟨id, id⟩ ?_))
            refine AWP.cond rfl (fun hb => ?_) (fun hb => ?_)
            · exact (nf (by decide) hb).elim
            (repeat (first | refine AWP.seq ?_ | refine AWP.skip ?_ | refine AWP.label ?_ | refine AWP.exit ?_ | refine AWP.block ?_ | refine AWP.region hX hK_ok rfl trivial ?_ | refine AWP.region hX hK_ok rfl id ?_ | refine AWP.region hX hK_ok rfl ⟨id, id⟩ ?_))
            refine AWP.cond rfl (fun hb => ?_) (fun hb => ?_)
            · refine AWP.list ?_
              refine AL.take 1 hX hK_ok rfl trivial ?_
              refine AL.pcall hX number_ok (c := cNumP) (x := (kr, ())) (xs := ((63 : Int), ())) rfl rfl rfl rfl rfl rfl rfl rfl rfl rfl trivial h63 hI (F' := fun _ => _) (fun _ => rfl) ?_
              show PCall _ _ _ _ _ _ _ _ _ _ _ _ _ (toV _ (numP kr 63))
              cases hn : numP kr 63 with
              | error e' => rw [hn] at hW; cases hW
              | ok x =>
                rw [hn] at hW
                cases hW
                simp only [toV, PCall]
                refine AL.all hX hK_ok rfl trivial ?_
                exact ⟨⟨rfl, rfl, rfl, trivial⟩, ⟨rfl, rfl, rfl, trivial⟩, rfl, rfl⟩
            · exact (nt hb).elim
        · have wr' : WW wr := whoP_WW hW wk
          generalize hA : ((chI wsA a.1 : Nat) : Int) + 1 = A
          have hyA : ∀ {y : List UInt8 × List Wd} {al : List (List UInt8)} (m : Int), passP wr al = .ok y → (∀ w ∈ al, w ≠ []) → 0 ≤ m → m < 1000000 → allP (cNumP.pre (y.2, ()) (m, ())) := fun m hy hal h0 h1 => ⟨(passP_WW hy wr' hal).pos, (passP_WW hy wr' hal).head, h0, h1⟩
          cases hg : whatP A wr with
          | error e =>
            simp only [hg]
            unfold sGP
            refine AWP.seq ?_
            (repeat (first | refine AWP.seq ?_ | refine AWP.skip ?_ | refine AWP.label ?_ | refine AWP.exit ?_ | refine AWP.block ?_ | refine AWP.region hX hK_ok rfl trivial ?_ | refine AWP.region hX hK_ok rfl id ?_ | refine AWP.region hX hK_ok rfl ⟨id, id⟩ ?_))
            refine AWP.cond rfl (fun hb => ?_) (fun hb => ?_)
            · have hb : decide (A = 1) = true := hb
              have hb := of_decide_eq_true hb
              rw [show whatP A wr = (match passP wr wsG with | .error e => .error e | .ok y => match numP y.2 4 with | .error e => .error e | .ok x => .ok (x.1, 0, x.2)) from if_pos hb] at hg
              (repeat (first | refine AWP.seq ?_ | refine AWP.skip ?_ | refine AWP.block ?_ | refine AWP.exit ?_)); refine AWP.list ?_
              refine AL.take 2 hX hK_ok rfl trivial ?_
              refine AL.pcall hX pass_ok (c := cPassP) (x := (wr, ())) (xs := (wsG, ())) rfl rfl rfl rfl rfl rfl rfl rfl rfl rfl trivial wr'.pos hI (F' := fun _ => _) (fun _ => rfl) ?_
              show PCall _ _ _ _ _ _ _ _ _ _ _ _ _ (toV _ (passP wr wsG))
              cases hy : passP wr wsG with
              | error e' =>
                rw [hy] at hg
                cases hg
                exact fun x' => ⟨rfl, x', rfl⟩
              | ok y =>
                simp only [hy] at hg
                simp only [toV, PCall]
                refine AL.nil ?_
                refine AWP.list ?_
                refine AL.take 1 hX hK_ok rfl trivial ?_
                refine AL.pcall hX number_ok (c := cNumP) (x := (y.2, ())) (xs := ((4 : Int), ())) rfl rfl rfl rfl rfl rfl rfl rfl rfl rfl trivial (hyA 4 hy (by decide) (by decide) (by decide)) hI (F' := fun _ => _) (fun _ => rfl) ?_
                show PCall _ _ _ _ _ _ _ _ _ _ _ _ _ (toV _ (numP y.2 4))
                cases hn : numP y.2 4 with
                | error e' =>
                  rw [hn] at hg
                  cases hg
                  exact fun x' => ⟨rfl, x', rfl⟩
                | ok x => rw [hn] at hg; cases hg
            · have hb1 : decide (A = 1) = false := hb
              have hb1 := of_decide_eq_false hb1
              (repeat (first | refine AWP.seq ?_ | refine AWP.skip ?_ | refine AWP.label ?_ | refine AWP.exit ?_ | refine AWP.block ?_ | refine AWP.region hX hK_ok rfl trivial ?_ | refine AWP.region hX hK_ok rfl id ?_ | refine AWP.region hX hK_ok rfl ⟨id, id⟩ ?_))
              refine AWP.cond rfl (fun hb => ?_) (fun hb => ?_)
              · have hb : decide (A = 3) = true := hb
                have hb := of_decide_eq_true hb
                rw [show whatP A wr = (match passP wr wsR with | .error e => .error e | .ok y => match numP y.2 100 with | .error e => .error e | .ok x => .ok (0, x.1, x.2)) from (if_neg hb1).trans (if_pos hb)] at hg
                (repeat (first | refine AWP.seq ?_ | refine AWP.skip ?_ | refine AWP.block ?_ | refine AWP.exit ?_)); refine AWP.list ?_
                refine AL.take 2 hX hK_ok rfl trivial ?_
                refine AL.pcall hX pass_ok (c := cPassP) (x := (wr, ())) (xs := (wsR, ())) rfl rfl rfl rfl rfl rfl rfl rfl rfl rfl trivial wr'.pos hI (F' := fun _ => _) (fun _ => rfl) ?_
                show PCall _ _ _ _ _ _ _ _ _ _ _ _ _ (toV _ (passP wr wsR))
                cases hy : passP wr wsR with
                | error e' =>
                  rw [hy] at hg
                  cases hg
                  exact fun x' => ⟨rfl, x', rfl⟩
                | ok y =>
                  simp only [hy] at hg
                  simp only [toV, PCall]
                  refine AL.nil ?_
                  refine AWP.list ?_
                  refine AL.take 1 hX hK_ok rfl trivial ?_
                  refine AL.pcall hX number_ok (c := cNumP) (x := (y.2, ())) (xs := ((100 : Int), ())) rfl rfl rfl rfl rfl rfl rfl rfl rfl rfl trivial (hyA 100 hy (by decide) (by decide) (by decide)) hI (F' := fun _ => _) (fun _ => rfl) ?_
                  show PCall _ _ _ _ _ _ _ _ _ _ _ _ _ (toV _ (numP y.2 100))
                  cases hn : numP y.2 100 with
                  | error e' =>
                    rw [hn] at hg
                    cases hg
                    exact fun x' => ⟨rfl, x', rfl⟩
                  | ok x => rw [hn] at hg; cases hg
              · have hb : decide (A = 3) = false := hb
                have hb := of_decide_eq_false hb
                rw [show whatP A wr = .ok (0, 0, wr) from (if_neg hb1).trans (if_neg hb)] at hg
                cases hg
          | ok d =>
            obtain ⟨gg, gk, gw⟩ := d
            have gw' : WW gw := whatP_WW hg wr'
            simp only [hg]
            refine AWP.join (σ' := sGP gw A wp wt gg gk) ?_ ?_
            · unfold sGP
              (repeat (first | refine AWP.seq ?_ | refine AWP.skip ?_ | refine AWP.label ?_ | refine AWP.exit ?_ | refine AWP.block ?_ | refine AWP.region hX hK_ok rfl trivial ?_ | refine AWP.region hX hK_ok rfl id ?_ | refine AWP.region hX hK_ok rfl ⟨id, id⟩ ?_))
              refine AWP.cond rfl (fun hb => ?_) (fun hb => ?_)
              · have hb : decide (A = 1) = true := hb
                have hb := of_decide_eq_true hb
                rw [show whatP A wr = (match passP wr wsG with | .error e => .error e | .ok y => match numP y.2 4 with | .error e => .error e | .ok x => .ok (x.1, 0, x.2)) from if_pos hb] at hg
                (repeat (first | refine AWP.seq ?_ | refine AWP.skip ?_ | refine AWP.block ?_ | refine AWP.exit ?_)); refine AWP.list ?_
                refine AL.take 2 hX hK_ok rfl trivial ?_
                refine AL.pcall hX pass_ok (c := cPassP) (x := (wr, ())) (xs := (wsG, ())) rfl rfl rfl rfl rfl rfl rfl rfl rfl rfl trivial wr'.pos hI (F' := fun _ => _) (fun _ => rfl) ?_
                show PCall _ _ _ _ _ _ _ _ _ _ _ _ _ (toV _ (passP wr wsG))
                cases hy : passP wr wsG with
                | error e' => rw [hy] at hg; cases hg
                | ok y =>
                  simp only [hy] at hg
                  simp only [toV, PCall]
                  refine AL.nil ?_
                  refine AWP.list ?_
                  refine AL.take 1 hX hK_ok rfl trivial ?_
                  refine AL.pcall hX number_ok (c := cNumP) (x := (y.2, ())) (xs := ((4 : Int), ())) rfl rfl rfl rfl rfl rfl rfl rfl rfl rfl trivial (hyA 4 hy (by decide) (by decide) (by decide)) hI (F' := fun _ => _) (fun _ => rfl) ?_
                  show PCall _ _ _ _ _ _ _ _ _ _ _ _ _ (toV _ (numP y.2 4))
                  cases hn : numP y.2 4 with
                  | error e' => rw [hn] at hg; cases hg
                  | ok x =>
                    rw [hn] at hg
                    cases hg
                    simp only [toV, PCall]
                    refine AL.all hX hK_ok rfl trivial ?_
                    exact ⟨⟨rfl, rfl, rfl, trivial⟩, ⟨rfl, rfl, rfl, trivial⟩, rfl, rfl⟩
              · have hb1 : decide (A = 1) = false := hb
                have hb1 := of_decide_eq_false hb1
                (repeat (first | refine AWP.seq ?_ | refine AWP.skip ?_ | refine AWP.label ?_ | refine AWP.exit ?_ | refine AWP.block ?_ | refine AWP.region hX hK_ok rfl trivial ?_ | refine AWP.region hX hK_ok rfl id ?_ | refine AWP.region hX hK_ok rfl ⟨id, id⟩ ?_))
                refine AWP.cond rfl (fun hb => ?_) (fun hb => ?_)
                · have hb : decide (A = 3) = true := hb
                  have hb := of_decide_eq_true hb
                  rw [show whatP A wr = (match passP wr wsR with | .error e => .error e | .ok y => match numP y.2 100 with | .error e => .error e | .ok x => .ok (0, x.1, x.2)) from (if_neg hb1).trans (if_pos hb)] at hg
                  (repeat (first | refine AWP.seq ?_ | refine AWP.skip ?_ | refine AWP.block ?_ | refine AWP.exit ?_)); refine AWP.list ?_
                  refine AL.take 2 hX hK_ok rfl trivial ?_
                  refine AL.pcall hX pass_ok (c := cPassP) (x := (wr, ())) (xs := (wsR, ())) rfl rfl rfl rfl rfl rfl rfl rfl rfl rfl trivial wr'.pos hI (F' := fun _ => _) (fun _ => rfl) ?_
                  show PCall _ _ _ _ _ _ _ _ _ _ _ _ _ (toV _ (passP wr wsR))
                  cases hy : passP wr wsR with
                  | error e' => rw [hy] at hg; cases hg
                  | ok y =>
                    simp only [hy] at hg
                    simp only [toV, PCall]
                    refine AL.nil ?_
                    refine AWP.list ?_
                    refine AL.take 1 hX hK_ok rfl trivial ?_
                    refine AL.pcall hX number_ok (c := cNumP) (x := (y.2, ())) (xs := ((100 : Int), ())) rfl rfl rfl rfl rfl rfl rfl rfl rfl rfl trivial (hyA 100 hy (by decide) (by decide) (by decide)) hI (F' := fun _ => _) (fun _ => rfl) ?_
                    show PCall _ _ _ _ _ _ _ _ _ _ _ _ _ (toV _ (numP y.2 100))
                    cases hn : numP y.2 100 with
                    | error e' => rw [hn] at hg; cases hg
                    | ok x =>
                      rw [hn] at hg
                      cases hg
                      simp only [toV, PCall]
                      refine AL.all hX hK_ok rfl trivial ?_
                      exact ⟨⟨rfl, rfl, rfl, trivial⟩, ⟨rfl, rfl, rfl, trivial⟩, rfl, rfl⟩
                · have hb : decide (A = 3) = false := hb
                  have hb := of_decide_eq_false hb
                  rw [show whatP A wr = .ok (0, 0, wr) from (if_neg hb1).trans (if_neg hb)] at hg
                  cases hg
                  (repeat (first | refine AWP.seq ?_ | refine AWP.skip ?_ | refine AWP.label ?_ | refine AWP.exit ?_ | refine AWP.block ?_ | refine AWP.region hX hK_ok rfl trivial ?_ | refine AWP.region hX hK_ok rfl id ?_ | refine AWP.region hX hK_ok rfl ⟨id, id⟩ ?_))
                  exact ⟨⟨rfl, rfl, rfl, trivial⟩, ⟨rfl, rfl, rfl, trivial⟩, rfl, rfl⟩
            unfold sGP
            (repeat (first | refine AWP.seq ?_ | refine AWP.skip ?_ | refine AWP.block ?_ | refine AWP.exit ?_)); refine AWP.list ?_
            refine AL.take 2 hX hK_ok rfl trivial ?_
            refine AL.pcall hX pass_ok (c := cPassP) (x := (gw, ())) (xs := (wsE, ())) rfl rfl rfl rfl rfl rfl rfl rfl rfl rfl trivial gw'.pos hI (F' := fun _ => _) (fun _ => rfl) ?_
            show PCall _ _ _ _ _ _ _ _ _ _ _ _ _ (toV _ (passP gw wsE))
            cases hx : passP gw wsE with
            | error e' => exact fun x' => ⟨rfl, x', rfl⟩
            | ok x =>
              simp only [toV, PCall]
              refine AL.nil ?_
              (repeat (first | refine AWP.seq ?_ | refine AWP.skip ?_ | refine AWP.label ?_ | refine AWP.exit ?_ | refine AWP.block ?_ | refine AWP.region hX hK_ok rfl trivial ?_ | refine AWP.region hX hK_ok rfl id ?_ | refine AWP.region hX hK_ok rfl ⟨id, id⟩ ?_))
              exact AWP.ret ⟨.inr rfl, rfl, done1 rfl trivial rfl rfl rfl⟩
end Go.Proofs.YthkhgpbjfcmopaaGreatDoor
