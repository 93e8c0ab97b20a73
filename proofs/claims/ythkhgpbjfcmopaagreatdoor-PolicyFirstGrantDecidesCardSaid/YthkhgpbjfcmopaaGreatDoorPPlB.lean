/-
  Plain law: the package's parser, word by word and line by line, gives what the reference's gives. No program is read here.
-/
import Derived.Test.YthkhgpbjfcmopaaGreatDoorPPrgE
import Derived.Test.YthkhgpbjfcmopaaGreatDoorPRefE
namespace Go.Proofs.YthkhgpbjfcmopaaGreatDoor
open Go Go.RowKit
set_option linter.unusedSimpArgs false
set_option linter.unusedVariables false
/-- the first of the words that are left -/
def hdT (ws : List Wd) : List UInt8 := wT (ws.getD 0 zW)
def hdA (ws : List Wd) : Int := wA (ws.getD 0 zW)
/-- one of some words -/
def passP (ws : List Wd) (al : List (List UInt8)) : Except (Int × Int) (List UInt8 × List Wd) := if hdT ws ∈ al then .ok (hdT ws, ws.tail) else .error (hdA ws, 3)
/-- a number from 0 to most -/
def numP (ws : List Wd) (most : Int) : Except (Int × Int) (Int × List Wd) := if (num (hdT ws)).2.1 = false then .error (hdA ws, 3) else if (num (hdT ws)).1 > most then .error (hdA ws, 1) else .ok ((num (hdT ws)).1, ws.tail)
def whoP (k : Nat) (ws : List Wd) : Except (Int × Int) (Int × Int × List Wd) :=
  if k = 1 then (match numP ws 511 with | .error e => .error e | .ok x => .ok (x.1, -1, x.2)) else if k = 2 then (match numP ws 63 with | .error e => .error e | .ok x => .ok (-1, x.1, x.2)) else .ok (-1, -1, ws)
def whatP (a : Int) (ws : List Wd) : Except (Int × Int) (Int × Int × List Wd) :=
  if a = 1 then (match passP ws wsG with | .error e => .error e | .ok y => match numP y.2 4 with | .error e => .error e | .ok x => .ok (x.1, 0, x.2))
  else if a = 3 then (match passP ws wsR with | .error e => .error e | .ok y => match numP y.2 100 with | .error e => .error e | .ok x => .ok (0, x.1, x.2))
  else .ok (0, 0, ws)
def grantP (ws : List Wd) : Except (Int × Int) Gt :=
  match passP ws wsA with
  | .error e => .error e
  | .ok a => match passP a.2 wsW with
    | .error e => .error e
    | .ok k => match whoP (chI wsW k.1) k.2 with
      | .error e => .error e
      | .ok w => match whatP ((chI wsA a.1 : Nat) + 1) w.2.2 with
        | .error e => .error e
        | .ok g => match passP g.2.2 wsE with
          | .error e => .error e
          | .ok _ => .ok ((chI wsA a.1 : Nat) + 1, w.1, w.2.1, g.1, g.2.1, ())
/-- the reference's reader stands at these words, or has failed -/
def atW (r : Rd) (ws : List Wd) : Prop := rE r = 0 ∧ 0 ≤ rI r ∧ (rL r).drop (rI r).toNat = ws
def atE (r : Rd) (e : Int × Int) : Prop := rA r = e.1 ∧ rE r = e.2 ∧ e.2 ≠ 0
theorem atW.head {r : Rd} {ws : List Wd} (h : atW r ws) : (rL r).getD (rI r).toNat zW = ws.getD 0 zW := by
  rw [← h.2.2, List.getD_eq_getElem?_getD, List.getD_eq_getElem?_getD, List.getElem?_drop, Nat.add_zero]
theorem atW.cur {r : Rd} {ws : List Wd} (h : atW r ws) : cur r = hdT ws := by unfold Go.Proofs.YthkhgpbjfcmopaaGreatDoor.cur hdT; rw [h.head]
theorem atW.next {r : Rd} {ws : List Wd} (h : atW r ws) : atW (nextS r) ws.tail := by
  refine ⟨h.1, by show 0 ≤ rI r + 1; have := h.2.1; omega, ?_⟩
  show (rL r).drop (rI r + 1).toNat = ws.tail
  rw [show (rI r + 1).toNat = (rI r).toNat + 1 by have := h.2.1; omega, ← h.2.2, List.tail_drop]
theorem atW.fail {r : Rd} {ws : List Wd} (h : atW r ws) {e : Int} (he : e ≠ 0) : atE (failS r e) (hdA ws, e) := by
  unfold failS
  rw [if_pos h.1]
  refine ⟨?_, rfl, he⟩
  show wA _ = hdA ws
  rw [h.head]
  rfl
theorem chI_lt {al : List (List UInt8)} {t : List UInt8} : chI al t < al.length ↔ t ∈ al := by
  unfold chI
  rw [List.findIdx_lt_length]
  constructor
  · rintro ⟨x, h1, h2⟩
    rw [of_decide_eq_true h2]
    exact h1
  · exact fun h => ⟨t, h, decide_eq_true rfl⟩
theorem choS_atE {r : Rd} {e : Int × Int} (h : atE r e) (al : List (List UInt8)) : (choS r al).2 = r := by
  unfold choS
  rw [if_pos (fun h0 => h.2.2 (h.2.1.symm.trans h0))]
theorem numS_atE {r : Rd} {e : Int × Int} (h : atE r e) (m : Int) : (numS r m).2 = r := by
  unfold numS
  rw [if_pos (fun h0 => h.2.2 (h.2.1.symm.trans h0))]
theorem whoS_atE {r : Rd} {e : Int × Int} (h : atE r e) (k : Int) : (whoS k r).2.2 = r := by
  unfold whoS
  split
  · exact numS_atE h _
  · split
    · exact numS_atE h _
    · rfl
theorem whatS_atE {r : Rd} {e : Int × Int} (h : atE r e) (a : Int) : (whatS a r).2.2 = r := by
  unfold whatS
  split
  · show (numS (choS r wsG).2 4).2 = r
    rw [choS_atE h]
    exact numS_atE h _
  · split
    · show (numS (choS r wsR).2 100).2 = r
      rw [choS_atE h]
      exact numS_atE h _
    · rfl
theorem choS_atW {r : Rd} {ws : List Wd} (h : atW r ws) (al : List (List UInt8)) : match passP ws al with
    | .ok x => (choS r al).1 = (chI al x.1 : Nat) ∧ atW (choS r al).2 x.2
    | .error e => atE (choS r al).2 e := by
  have h1 : choS r al = if chI al (hdT ws) < al.length then ((chI al (hdT ws) : Int), nextS r) else (0, failS r 3) := by
    rw [← h.cur]
    exact if_neg (fun h0 => h0 h.1)
  by_cases hc : hdT ws ∈ al
  · rw [show passP ws al = .ok (hdT ws, ws.tail) from if_pos hc, h1, if_pos (chI_lt.2 hc)]
    exact ⟨rfl, h.next⟩
  · rw [show passP ws al = .error (hdA ws, 3) from if_neg hc, h1, if_neg (fun h0 => hc (chI_lt.1 h0))]
    exact h.fail (by decide)
theorem numS_atW {r : Rd} {ws : List Wd} (h : atW r ws) (m : Int) : match numP ws m with
    | .ok x => (numS r m).1 = x.1 ∧ atW (numS r m).2 x.2
    | .error e => atE (numS r m).2 e := by
  have h1 : numS r m = if (num (hdT ws)).2.1 = false then (0, failS r 3) else if (num (hdT ws)).1 > m then (0, failS r 1) else ((num (hdT ws)).1, nextS r) := by
    rw [← h.cur]
    exact if_neg (fun h0 => h0 h.1)
  by_cases hc : (num (hdT ws)).2.1 = false
  · rw [show numP ws m = .error (hdA ws, 3) from if_pos hc, h1, if_pos hc]
    exact h.fail (by decide)
  · by_cases hm : (num (hdT ws)).1 > m
    · rw [show numP ws m = .error (hdA ws, 1) from (if_neg hc).trans (if_pos hm), h1, if_neg hc, if_pos hm]
      exact h.fail (by decide)
    · rw [show numP ws m = .ok ((num (hdT ws)).1, ws.tail) from (if_neg hc).trans (if_neg hm), h1, if_neg hc, if_neg hm]
      exact ⟨rfl, h.next⟩
theorem whoS_atW {r : Rd} {ws : List Wd} (h : atW r ws) (k : Nat) : match whoP k ws with
    | .ok x => (whoS (k : Int) r).1 = x.1 ∧ (whoS (k : Int) r).2.1 = x.2.1 ∧ atW (whoS (k : Int) r).2.2 x.2.2
    | .error e => atE (whoS (k : Int) r).2.2 e := by
  by_cases h1 : k = 1
  · rw [show whoP k ws = (match numP ws 511 with | .error e => .error e | .ok x => .ok (x.1, -1, x.2)) from if_pos h1, show whoS (k : Int) r = ((numS r 511).1, -1, (numS r 511).2) from if_pos (by omega)]
    have := numS_atW h 511
    cases hn : numP ws 511 with
    | error e => rw [hn] at this; exact this
    | ok x => rw [hn] at this; exact ⟨this.1, rfl, this.2⟩
  · by_cases h2 : k = 2
    · rw [show whoP k ws = (match numP ws 63 with | .error e => .error e | .ok x => .ok (-1, x.1, x.2)) from (if_neg h1).trans (if_pos h2), show whoS (k : Int) r = (-1, (numS r 63).1, (numS r 63).2) from (if_neg (by omega)).trans (if_pos (by omega))]
      have := numS_atW h 63
      cases hn : numP ws 63 with
      | error e => rw [hn] at this; exact this
      | ok x => rw [hn] at this; exact ⟨rfl, this.1, this.2⟩
    · rw [show whoP k ws = .ok (-1, -1, ws) from (if_neg h1).trans (if_neg h2), show whoS (k : Int) r = (-1, -1, r) from (if_neg (by omega)).trans (if_neg (by omega))]
      exact ⟨rfl, rfl, h⟩
theorem whatS_atW {r : Rd} {ws : List Wd} (h : atW r ws) (a : Int) : match whatP a ws with
    | .ok x => (whatS a r).1 = x.1 ∧ (whatS a r).2.1 = x.2.1 ∧ atW (whatS a r).2.2 x.2.2
    | .error e => atE (whatS a r).2.2 e := by
  by_cases h1 : a = 1
  · rw [show whatP a ws = (match passP ws wsG with | .error e => .error e | .ok y => match numP y.2 4 with | .error e => .error e | .ok x => .ok (x.1, 0, x.2)) from if_pos h1, show whatS a r = ((numS (choS r wsG).2 4).1, 0, (numS (choS r wsG).2 4).2) from if_pos h1]
    have hc := choS_atW h wsG
    cases hp : passP ws wsG with
    | error e =>
      rw [hp] at hc
      show atE (numS (choS r wsG).2 4).2 e
      rw [numS_atE hc]
      exact hc
    | ok y =>
      rw [hp] at hc
      have := numS_atW hc.2 4
      cases hn : numP y.2 4 with
      | error e => rw [hn] at this; simp only [hn]; exact this
      | ok x => rw [hn] at this; simp only [hn]; exact ⟨this.1, trivial, this.2⟩
  · by_cases h3 : a = 3
    · rw [show whatP a ws = (match passP ws wsR with | .error e => .error e | .ok y => match numP y.2 100 with | .error e => .error e | .ok x => .ok (0, x.1, x.2)) from (if_neg h1).trans (if_pos h3), show whatS a r = (0, (numS (choS r wsR).2 100).1, (numS (choS r wsR).2 100).2) from (if_neg h1).trans (if_pos h3)]
      have hc := choS_atW h wsR
      cases hp : passP ws wsR with
      | error e =>
        rw [hp] at hc
        show atE (numS (choS r wsR).2 100).2 e
        rw [numS_atE hc]
        exact hc
      | ok y =>
        rw [hp] at hc
        have := numS_atW hc.2 100
        cases hn : numP y.2 100 with
        | error e => rw [hn] at this; simp only [hn]; exact this
        | ok x => rw [hn] at this; simp only [hn]; exact ⟨trivial, this.1, this.2⟩
    · rw [show whatP a ws = .ok (0, 0, ws) from (if_neg h1).trans (if_neg h3), show whatS a r = (0, 0, r) from (if_neg h1).trans (if_neg h3)]
      exact ⟨rfl, rfl, h⟩
theorem grantS_P (ws : List Wd) : match grantP ws with
    | .ok g => (grantS (ws, 0, 0, 0, ())).1 = g ∧ rE (grantS (ws, 0, 0, 0, ())).2 = 0
    | .error e => atE (grantS (ws, 0, 0, 0, ())).2 e := by
  have h0 : atW (ws, 0, 0, 0, ()) ws := ⟨rfl, Int.le_refl _, rfl⟩
  unfold grantP
  have ha := choS_atW h0 wsA
  generalize hA : choS (ws, 0, 0, 0, ()) wsA = A at ha
  have e0 : grantS (ws, 0, 0, 0, ()) = ((A.1 + 1, (whoS (choS A.2 wsW).1 (choS A.2 wsW).2).1, (whoS (choS A.2 wsW).1 (choS A.2 wsW).2).2.1, (whatS (A.1 + 1) (whoS (choS A.2 wsW).1 (choS A.2 wsW).2).2.2).1, (whatS (A.1 + 1) (whoS (choS A.2 wsW).1 (choS A.2 wsW).2).2.2).2.1, ()), (choS (whatS (A.1 + 1) (whoS (choS A.2 wsW).1 (choS A.2 wsW).2).2.2).2.2 wsE).2) := by
    unfold grantS
    rw [hA]
  rw [e0]
  clear e0 hA
  cases pa : passP ws wsA with
  | error e =>
    rw [pa] at ha
    have ha : atE A.2 e := ha
    show atE (choS (whatS (A.1 + 1) (whoS (choS A.2 wsW).1 (choS A.2 wsW).2).2.2).2.2 wsE).2 e
    rw [choS_atE ha, whoS_atE ha, whatS_atE ha, choS_atE ha]
    exact ha
  | ok a =>
    rw [pa] at ha
    obtain ⟨a1, ha⟩ : A.1 = (chI wsA a.1 : Nat) ∧ atW A.2 a.2 := ha
    have hk := choS_atW ha wsW
    generalize choS A.2 wsW = B at hk ⊢
    cases pk : passP a.2 wsW with
    | error e =>
      rw [pk] at hk
      simp only [pk]
      have hk : atE B.2 e := hk
      show atE (choS (whatS (A.1 + 1) (whoS B.1 B.2).2.2).2.2 wsE).2 e
      rw [whoS_atE hk, whatS_atE hk, choS_atE hk]
      exact hk
    | ok k =>
      rw [pk] at hk
      simp only [pk]
      obtain ⟨k1, hk⟩ : B.1 = (chI wsW k.1 : Nat) ∧ atW B.2 k.2 := hk
      have hw := whoS_atW hk (chI wsW k.1)
      rw [← k1] at hw
      generalize whoS B.1 B.2 = C at hw ⊢
      cases pw : whoP (chI wsW k.1) k.2 with
      | error e =>
        rw [pw] at hw
        simp only [pw]
        have hw : atE C.2.2 e := hw
        show atE (choS (whatS (A.1 + 1) C.2.2).2.2 wsE).2 e
        rw [whatS_atE hw, choS_atE hw]
        exact hw
      | ok w =>
        rw [pw] at hw
        simp only [pw]
        obtain ⟨w1, w2, hw⟩ : C.1 = w.1 ∧ C.2.1 = w.2.1 ∧ atW C.2.2 w.2.2 := hw
        have hg := whatS_atW hw (A.1 + 1)
        rw [a1] at hg ⊢
        generalize whatS _ C.2.2 = D at hg ⊢
        cases pg : whatP ((chI wsA a.1 : Nat) + 1) w.2.2 with
        | error e =>
          rw [pg] at hg
          simp only [pg]
          have hg : atE D.2.2 e := hg
          show atE (choS D.2.2 wsE).2 e
          rw [choS_atE hg]
          exact hg
        | ok g =>
          rw [pg] at hg
          simp only [pg]
          obtain ⟨g1, g2, hg⟩ : D.1 = g.1 ∧ D.2.1 = g.2.1 ∧ atW D.2.2 g.2.2 := hg
          have he := choS_atW hg wsE
          cases pe : passP g.2.2 wsE with
          | error e => rw [pe] at he; simp only [pe]; exact he
          | ok x =>
            rw [pe] at he
            simp only [pe]
            refine ⟨?_, he.2.1⟩
            show (((chI wsA a.1 : Nat) : Int) + 1, C.1, C.2.1, D.1, D.2.1, ()) = _
            rw [w1, w2, g1, g2]
/-- one line more -/
theorem pF_cons {l : List Wd} {r : List (List Wd)} {k : Nat} {acc : List Gt} (hk : k ≠ 64) : pF (l :: r) k acc = match grantP l with
    | .error e => ([], e.1, e.2)
    | .ok g => pF r (k + 1) (acc ++ [g]) := by
  have h := grantS_P l
  have e : pF (l :: r) k acc = if k = 64 then ([], wA (l.getD 0 zW), 2) else if rE (grantS (l, 0, 0, 0, ())).2 ≠ 0 then ([], rA (grantS (l, 0, 0, 0, ())).2, rE (grantS (l, 0, 0, 0, ())).2) else pF r (k + 1) (acc ++ [(grantS (l, 0, 0, 0, ())).1]) := rfl
  rw [e, if_neg hk]
  cases hg : grantP l with
  | error e =>
    rw [hg] at h
    have h : atE (grantS (l, 0, 0, 0, ())).2 e := h
    rw [if_pos (by rw [h.2.1]; exact h.2.2), h.1, h.2.1]
  | ok g =>
    rw [hg] at h
    have h : (grantS (l, 0, 0, 0, ())).1 = g ∧ rE (grantS (l, 0, 0, 0, ())).2 = 0 := h
    rw [if_neg (fun h0 => h0 h.2), h.1]
/-! ### lines -/
/-- the parts between the line feeds, the first with what came ahead of it -/
def segF : List UInt8 → List UInt8 → List (List UInt8)
  | c, [] => [c]
  | c, x :: r => if x = 10 then c :: segF [] r else segF (c ++ [x]) r
def segs (s : List UInt8) : List (List UInt8) := segF [] s
def keepW (ws : List Wd) : List (List Wd) := if ws.length = 1 then [] else [ws]
/-- the lines that have words, of parts that begin at an offset -/
def linesOf : List (List UInt8) → Nat → List (List Wd)
  | [], _ => []
  | g :: r, i => keepW (splitS g i) ++ linesOf r (i + g.length + 1)
theorem segF_head (c : List UInt8) : ∀ (s : List UInt8) (d : List UInt8), ∃ g r, segF d s = (d ++ g) :: r ∧ segF (c ++ d) s = (c ++ d ++ g) :: r
  | [], d => ⟨[], [], by rw [List.append_nil]; rfl, by rw [List.append_nil]; rfl⟩
  | x :: s, d => by
    unfold segF
    by_cases hx : x = 10
    · rw [if_pos hx, if_pos hx]
      exact ⟨[], segF [] s, by rw [List.append_nil], by rw [List.append_nil]⟩
    · rw [if_neg hx, if_neg hx]
      obtain ⟨g, r, h1, h2⟩ := segF_head c s (d ++ [x])
      refine ⟨x :: g, r, by rw [h1, List.append_assoc]; rfl, ?_⟩
      rw [List.append_assoc, h2, List.append_assoc, List.append_assoc, List.append_assoc]
      rfl
theorem keepW_fin (line : List Wd) (i : Nat) : keepW (line ++ [([], (i : Int), ())]) = fin line i := by
  unfold keepW fin
  by_cases h : line = []
  · rw [if_pos h, h]; rfl
  · rw [if_neg h, if_neg]
    rw [List.length_append, List.length_singleton]
    have := List.length_pos_iff.2 h
    omega
theorem flush_eq (c : List UInt8) (a : Int) (l : List Wd) : flush c a l = flushP c a l := rfl
theorem lnF_segs : ∀ (s : List UInt8) (i : Nat) (c : List UInt8) (line : List Wd), ∃ g r, segF [] s = g :: r ∧ lnF s i c line = keepW (spF g i c line) ++ linesOf r (i + g.length + 1)
  | [], i, c, line => by
    refine ⟨[], [], rfl, ?_⟩
    show fin (flush c ((i - c.length : Nat) : Int) line) i = keepW (flushP c ((i - c.length : Nat) : Int) line ++ [([], (i : Int), ())]) ++ []
    rw [keepW_fin, List.append_nil]
    rfl
  | x :: s, i, c, line => by
    by_cases hx : x = 10
    · subst hx
      obtain ⟨g, r, h1, h2⟩ := lnF_segs s (i + 1) [] []
      refine ⟨[], g :: r, by unfold segF; rw [if_pos rfl, h1], ?_⟩
      unfold lnF
      rw [if_neg (fun h => h.2 rfl), if_pos rfl, h2]
      show _ = keepW (flushP c ((i - c.length : Nat) : Int) line ++ [([], (i : Int), ())]) ++ (keepW (splitS g (i + 1)) ++ linesOf r (i + 1 + g.length + 1))
      rw [keepW_fin]
      rfl
    · obtain ⟨g, r, e1, e2⟩ := segF_head [x] s []
      rw [List.nil_append] at e1
      rw [List.append_nil] at e2
      have hs : segF [] (x :: s) = ([x] ++ g) :: r := by
        unfold segF
        rw [if_neg hx]
        exact e2
      refine ⟨[x] ++ g, r, hs, ?_⟩
      have hlen : ([x] ++ g).length = g.length + 1 := by simp
      by_cases h32 : x = 32
      · subst h32
        obtain ⟨g', r', h1, h2⟩ := lnF_segs s (i + 1) [] (flush c ((i - c.length : Nat) : Int) line)
        rw [e1] at h1
        cases h1
        unfold lnF
        rw [if_neg (fun h => h.1 rfl), if_neg hx, h2, hlen, show i + 1 + g.length + 1 = i + (g.length + 1) + 1 by omega]
        congr 2
      · obtain ⟨g', r', h1, h2⟩ := lnF_segs s (i + 1) (c ++ [x]) line
        rw [e1] at h1
        cases h1
        unfold lnF
        rw [if_pos ⟨h32, hx⟩, h2, hlen, show i + 1 + g.length + 1 = i + (g.length + 1) + 1 by omega]
        congr 2
        show _ = (if x ≠ 32 then _ else _)
        rw [if_pos h32]
        rfl
theorem linesS_eq (s : List UInt8) : linesS s = linesOf (segs s) 0 := by
  obtain ⟨g, r, h1, h2⟩ := lnF_segs s 0 [] []
  unfold linesS segs
  rw [h2, h1]
  rfl
/-- the parser behind k grants, at parts that begin at an offset -/
def pK0 (gs : List (List UInt8)) (i k : Nat) (acc : List Gt) : List Gt × Int × Int := pF (linesOf gs i) k acc
theorem parseS_eq (s : List UInt8) : parseS s = if 4000 < s.length then ([], 0, 2) else pK0 (segs s) 0 0 [] := by
  unfold parseS pK0
  rw [linesS_eq]
end Go.Proofs.YthkhgpbjfcmopaaGreatDoor
