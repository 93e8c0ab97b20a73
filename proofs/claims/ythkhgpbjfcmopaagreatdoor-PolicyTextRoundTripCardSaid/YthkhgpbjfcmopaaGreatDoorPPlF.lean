/-
  Plain law: the canonical text of a valid policy denotes it; what a text denotes is valid; where errors lie. No program is read here.
-/
import Derived.Test.YthkhgpbjfcmopaaGreatDoorPPlB
namespace Go.Proofs.YthkhgpbjfcmopaaGreatDoor
open Go Go.RowKit
set_option linter.unusedSimpArgs false
set_option linter.unusedVariables false
set_option linter.unusedSimpArgs false
/-! ### numbers -/
theorem dig_toNat {d : Nat} (h : d < 10) : (UInt8.ofNat (48 + d)).toNat = 48 + d := by
  rw [UInt8.toNat_ofNat']
  exact Nat.mod_eq_of_lt (by omega)
theorem numF_app (b : List UInt8) : ∀ (a : List UInt8) (n m : Nat), numF a n = some m → numF (a ++ b) n = numF b m
  | [], n, m, h => by
    have h : some n = some m := h
    rw [Option.some.inj h]
    rfl
  | c :: r, n, m, h => by
    have e1 : numF (c :: r) n = if c.toNat < 48 ∨ 57 < c.toNat then none else numF r (min (10 * n + (c.toNat - 48)) 1000000) := rfl
    have e2 : numF (c :: r ++ b) n = if c.toNat < 48 ∨ 57 < c.toNat then none else numF (r ++ b) (min (10 * n + (c.toNat - 48)) 1000000) := rfl
    rw [e1] at h
    rw [e2]
    by_cases hc : c.toNat < 48 ∨ 57 < c.toNat
    · rw [if_pos hc] at h; cases h
    · rw [if_neg hc] at h
      rw [if_neg hc]
      exact numF_app b r _ m h
theorem numF_dig {d : Nat} (h : d < 10) (n : Nat) : numF [UInt8.ofNat (48 + d)] n = some (min (10 * n + d) 1000000) := by
  have e1 : numF [UInt8.ofNat (48 + d)] n = if (UInt8.ofNat (48 + d)).toNat < 48 ∨ 57 < (UInt8.ofNat (48 + d)).toNat then none else some (min (10 * n + ((UInt8.ofNat (48 + d)).toNat - 48)) 1000000) := rfl
  rw [e1, dig_toNat h, if_neg (by omega), show 48 + d - 48 = d by omega]
theorem numF_dec : ∀ (k n : Nat), n < k → n ≤ 1000000 → numF (dec n) 0 = some n
  | 0, n, h, _ => absurd h (Nat.not_lt_zero _)
  | k + 1, n, h, hb => by
    by_cases hn : n < 10
    · rw [dec_small hn, numF_dig hn]
      congr 1
      omega
    · rw [dec_big hn, numF_app _ _ _ _ (numF_dec k (n / 10) (by omega) (by omega)), numF_dig (by omega)]
      congr 1
      omega
theorem dec_ne (n : Nat) : dec n ≠ [] := by
  by_cases h : n < 10
  · rw [dec_small h]; simp
  · rw [dec_big h]; simp
theorem dec_dig : ∀ (k n : Nat), n < k → ∀ x ∈ dec n, x ≠ 32 ∧ x ≠ 10
  | 0, n, h, _, _ => absurd h (Nat.not_lt_zero _)
  | k + 1, n, h, x, hx => by
    have key : ∀ d, d < 10 → UInt8.ofNat (48 + d) ≠ 32 ∧ UInt8.ofNat (48 + d) ≠ 10 := by decide
    by_cases hn : n < 10
    · rw [dec_small hn, List.mem_singleton] at hx
      rw [hx]
      exact key _ hn
    · rw [dec_big hn] at hx
      rcases List.mem_append.1 hx with hx | hx
      · exact dec_dig k (n / 10) (by omega) x hx
      · rw [List.mem_singleton] at hx
        rw [hx]
        exact key _ (by omega)
theorem dec_head : ∀ (k n : Nat), n < k → 0 < n → (dec n).getD 0 0 ≠ 48
  | 0, n, h, _ => absurd h (Nat.not_lt_zero _)
  | k + 1, n, h, h0 => by
    have key : ∀ d, d < 10 → 0 < d → UInt8.ofNat (48 + d) ≠ 48 := by decide
    by_cases hn : n < 10
    · rw [dec_small hn]
      exact key _ hn h0
    · rw [dec_big hn]
      have ih := dec_head k (n / 10) (by omega) (by omega)
      have hne := dec_ne (n / 10)
      cases hd : dec (n / 10) with
      | nil => exact absurd hd hne
      | cons x r =>
        rw [hd] at ih
        exact ih
theorem num_dec {n : Nat} (h : n ≤ 1000000) : num (dec n) = ((n : Int), true, ()) := by
  unfold num
  rw [numF_dec (n + 1) n (Nat.lt_succ_self _) h]
  show ((n : Int), numT (dec n), ()) = _
  have ht : numT (dec n) = true := by
    unfold numT
    rw [Bool.or_eq_true]
    by_cases h0 : n = 0
    · rw [h0]
      exact .inl (by rw [dec_small (by decide : 0 < 10)]; rfl)
    · refine .inr ?_
      rw [decide_eq_true (dec_head (n + 1) n (Nat.lt_succ_self _) (by omega)), decide_eq_true (List.length_pos_iff.2 (dec_ne n))]
      rfl
  rw [ht]
theorem num_nonneg (s : List UInt8) : 0 ≤ (num s).1 := by
  unfold num
  split
  · exact Int.le_refl _
  · exact Int.natCast_nonneg _
/-! ### words -/
def joinW : List (List UInt8) → List UInt8
  | [] => []
  | [w] => w
  | w :: v :: r => w ++ 32 :: joinW (v :: r)
theorem lnF_word (r : List UInt8) (line : List Wd) : ∀ (w : List UInt8), (∀ x ∈ w, x ≠ 32 ∧ x ≠ 10) → ∀ (i : Nat) (c : List UInt8), lnF (w ++ r) i c line = lnF r (i + w.length) (c ++ w) line
  | [], _, i, c => by rw [List.append_nil]; rfl
  | x :: w, h, i, c => by
    have e : lnF (x :: w ++ r) i c line = if x ≠ 32 ∧ x ≠ 10 then lnF (w ++ r) (i + 1) (c ++ [x]) line else if x = 10 then fin (flush c ((i - c.length : Nat) : Int) line) i ++ lnF (w ++ r) (i + 1) [] [] else lnF (w ++ r) (i + 1) [] (flush c ((i - c.length : Nat) : Int) line) := rfl
    rw [e, if_pos (h x (List.mem_cons_self ..)), lnF_word r line w (fun y hy => h y (List.mem_cons_of_mem _ hy)), List.append_assoc, List.length_cons, show i + 1 + w.length = i + (w.length + 1) by omega]
    rfl
theorem lnF_sp (r : List UInt8) (i : Nat) (c : List UInt8) (line : List Wd) : lnF (32 :: r) i c line = lnF r (i + 1) [] (flush c ((i - c.length : Nat) : Int) line) := by
  have e : lnF (32 :: r) i c line = if (32 : UInt8) ≠ 32 ∧ (32 : UInt8) ≠ 10 then lnF r (i + 1) (c ++ [32]) line else if (32 : UInt8) = 10 then fin (flush c ((i - c.length : Nat) : Int) line) i ++ lnF r (i + 1) [] [] else lnF r (i + 1) [] (flush c ((i - c.length : Nat) : Int) line) := rfl
  rw [e, if_neg (by decide), if_neg (by decide)]
theorem lnF_nl (r : List UInt8) (i : Nat) (c : List UInt8) (line : List Wd) : lnF (10 :: r) i c line = fin (flush c ((i - c.length : Nat) : Int) line) i ++ lnF r (i + 1) [] [] := by
  have e : lnF (10 :: r) i c line = if (10 : UInt8) ≠ 32 ∧ (10 : UInt8) ≠ 10 then lnF r (i + 1) (c ++ [10]) line else if (10 : UInt8) = 10 then fin (flush c ((i - c.length : Nat) : Int) line) i ++ lnF r (i + 1) [] [] else lnF r (i + 1) [] (flush c ((i - c.length : Nat) : Int) line) := rfl
  rw [e, if_neg (by decide), if_pos rfl]
theorem flush_word {c : List UInt8} (h : c ≠ []) (a : Int) (line : List Wd) : flush c a line = line ++ [(c, a, ())] := if_neg h
theorem fin_app (line : List Wd) (x : Wd) (i : Nat) : fin (line ++ [x]) i = [line ++ [x] ++ [([], (i : Int), ())]] := if_neg (by simp)
theorem lnF_join (r : List UInt8) : ∀ (ws : List (List UInt8)), ws ≠ [] → (∀ w ∈ ws, w ≠ [] ∧ ∀ x ∈ w, x ≠ 32 ∧ x ≠ 10) → ∀ (i : Nat) (line : List Wd),
    ∃ L : List Wd, L.map wT = line.map wT ++ ws ++ [[]] ∧ lnF (joinW ws ++ 10 :: r) i [] line = L :: lnF r (i + (joinW ws).length + 1) [] []
  | [], h, _, _, _ => absurd rfl h
  | [w], _, h, i, line => by
    have hw := h w (List.mem_singleton.2 rfl)
    refine ⟨line ++ [(w, ((i + w.length - w.length : Nat) : Int), ())] ++ [([], ((i + w.length : Nat) : Int), ())], by rw [List.map_append, List.map_append]; rfl, ?_⟩
    show lnF (w ++ 10 :: r) i [] line = _
    rw [lnF_word _ _ _ hw.2, List.nil_append, lnF_nl, flush_word hw.1, fin_app]
    rfl
  | w :: v :: ws, _, h, i, line => by
    have hw := h w (List.mem_cons_self ..)
    obtain ⟨L, h1, h2⟩ := lnF_join r (v :: ws) (by simp) (fun x hx => h x (List.mem_cons_of_mem _ hx)) (i + w.length + 1) (line ++ [(w, ((i + w.length - w.length : Nat) : Int), ())])
    refine ⟨L, by rw [h1, List.map_append, List.append_assoc (line.map wT) _ (v :: ws)]; rfl, ?_⟩
    have e : joinW (w :: v :: ws) ++ 10 :: r = w ++ 32 :: (joinW (v :: ws) ++ 10 :: r) := by
      show (w ++ 32 :: joinW (v :: ws)) ++ 10 :: r = _
      rw [List.append_assoc]
      rfl
    have e2 : (joinW (w :: v :: ws)).length = w.length + 1 + (joinW (v :: ws)).length := by
      show (w ++ 32 :: joinW (v :: ws)).length = _
      rw [List.length_append, List.length_cons]
      omega
    rw [e, lnF_word _ _ _ hw.2, List.nil_append, lnF_sp, flush_word hw.1, h2, e2, show i + w.length + 1 + (joinW (v :: ws)).length + 1 = i + (w.length + 1 + (joinW (v :: ws)).length) + 1 by omega]
def actW (g : Gt) : List UInt8 := if gA g = 1 then [97, 115, 107] else if gA g = 2 then [98, 111, 111, 107] else [109, 111, 118, 101]
def whoW (g : Gt) : List (List UInt8) := if 0 ≤ gP g then [[112, 101, 114, 115, 111, 110], dec (gP g).toNat] else if 0 ≤ gT g then [[116, 101, 97, 109], dec (gT g).toNat] else [[97, 108, 108]]
def whatW (g : Gt) : List (List UInt8) := if gA g = 1 then [[103, 114, 97, 105, 110], dec (gG g).toNat] else if gA g = 2 then [] else [[114, 97, 110, 107], dec (gR g).toNat]
def wordsG (g : Gt) : List (List UInt8) := actW g :: (whoW g ++ whatW g)
theorem lineT_join (g : Gt) : lineT g = joinW (wordsG g) ++ [10] := by
  unfold lineT wordsG actW whoW whatW whoT
  by_cases h1 : gA g = 1 <;> by_cases h2 : gA g = 2 <;> by_cases h3 : 0 ≤ gP g <;> by_cases h4 : 0 ≤ gT g <;> simp [h1, h2, h3, h4, joinW, sAsk, sBook, sMove, sPerson, sTeam, sAll, sGrain, sRank] <;> omega
theorem wordsG_ok (g : Gt) : ∀ w ∈ wordsG g, w ≠ [] ∧ ∀ x ∈ w, x ≠ 32 ∧ x ≠ 10 := by
  have hd : ∀ n : Nat, dec n ≠ [] ∧ ∀ x ∈ dec n, x ≠ 32 ∧ x ≠ 10 := fun n => ⟨dec_ne n, dec_dig (n + 1) n (Nat.lt_succ_self _)⟩
  intro w hw
  unfold wordsG actW whoW whatW at hw
  rcases List.mem_cons.1 hw with hw | hw
  · rw [hw]
    repeat' split
    all_goals decide
  · rcases List.mem_append.1 hw with hw | hw
    · split at hw
      · rcases List.mem_cons.1 hw with hw | hw
        · rw [hw]; decide
        · rw [List.mem_singleton.1 hw]; exact hd _
      · split at hw
        · rcases List.mem_cons.1 hw with hw | hw
          · rw [hw]; decide
          · rw [List.mem_singleton.1 hw]; exact hd _
        · rw [List.mem_singleton.1 hw]; decide
    · split at hw
      · rcases List.mem_cons.1 hw with hw | hw
        · rw [hw]; decide
        · rw [List.mem_singleton.1 hw]; exact hd _
      · split at hw
        · cases hw
        · rcases List.mem_cons.1 hw with hw | hw
          · rw [hw]; decide
          · rw [List.mem_singleton.1 hw]; exact hd _
theorem words_inv {L : List Wd} {t : List UInt8} {r : List (List UInt8)} (h : L.map wT = t :: r) : hdT L = t ∧ L.tail.map wT = r := by
  cases L with
  | nil => cases h
  | cons x M => exact ⟨(List.cons.inj h).1, (List.cons.inj h).2⟩
theorem passP_of {L : List Wd} {t : List UInt8} {r : List (List UInt8)} (h : L.map wT = t :: r) {al : List (List UInt8)} (ht : t ∈ al) : passP L al = .ok (t, L.tail) ∧ L.tail.map wT = r := by
  obtain ⟨h1, h2⟩ := words_inv h
  refine ⟨?_, h2⟩
  unfold passP
  rw [h1, if_pos ht]
theorem numP_of {L : List Wd} {n : Int} {r : List (List UInt8)} (h : L.map wT = dec n.toNat :: r) {m : Int} (h0 : 0 ≤ n) (hn : n ≤ m) (hb : n ≤ 1000000) : numP L m = .ok (n, L.tail) ∧ L.tail.map wT = r := by
  obtain ⟨h1, h2⟩ := words_inv h
  refine ⟨?_, h2⟩
  unfold numP
  rw [h1, num_dec (by omega), if_neg (by intro h; cases h), if_neg (by show ¬ ((n.toNat : Nat) : Int) > m; omega), show ((n.toNat : Nat) : Int) = n by omega]
theorem whoP_of {g : Gt} (hg : OkG g) {L : List Wd} {r : List (List UInt8)} (h : L.map wT = whoW g ++ r) : ∃ k M, passP L wsW = .ok k ∧ whoP (chI wsW k.1) k.2 = .ok (gP g, gT g, M) ∧ M.map wT = r := by
  unfold whoW at h
  by_cases hp : 0 ≤ gP g
  · rw [if_pos hp] at h
    have hq : gP g < 512 ∧ gT g = -1 := by rcases hg.2.1 with h1 | h1 <;> omega
    obtain ⟨e1, h1⟩ := passP_of h (al := wsW) (by decide)
    obtain ⟨e2, h2⟩ := numP_of h1 (m := 511) hp (by omega) (by omega)
    refine ⟨_, _, e1, ?_, h2⟩
    have ek : chI wsW [112, 101, 114, 115, 111, 110] = 1 := by decide
    show whoP (chI wsW [112, 101, 114, 115, 111, 110]) L.tail = _
    rw [ek, show whoP 1 L.tail = (match numP L.tail 511 with | .error e => .error e | .ok x => .ok (x.1, -1, x.2)) from rfl, e2, hq.2]
  · rw [if_neg hp] at h
    have hq : gP g = -1 ∧ gT g ≤ 63 ∧ -1 ≤ gT g := by rcases hg.2.1 with h1 | h1 <;> omega
    by_cases ht : 0 ≤ gT g
    · rw [if_pos ht] at h
      obtain ⟨e1, h1⟩ := passP_of h (al := wsW) (by decide)
      obtain ⟨e2, h2⟩ := numP_of h1 (m := 63) ht hq.2.1 (by omega)
      refine ⟨_, _, e1, ?_, h2⟩
      have ek : chI wsW [116, 101, 97, 109] = 2 := by decide
      show whoP (chI wsW [116, 101, 97, 109]) L.tail = _
      rw [ek, show whoP 2 L.tail = (match numP L.tail 63 with | .error e => .error e | .ok x => .ok (-1, x.1, x.2)) from rfl, e2, hq.1]
    · rw [if_neg ht] at h
      obtain ⟨e1, h1⟩ := passP_of h (al := wsW) (by decide)
      refine ⟨_, _, e1, ?_, h1⟩
      have ek : chI wsW [97, 108, 108] = 0 := by decide
      show whoP (chI wsW [97, 108, 108]) L.tail = _
      rw [ek, show whoP 0 L.tail = .ok (-1, -1, L.tail) from rfl, hq.1, show gT g = -1 by omega]
theorem whatP_of {g : Gt} (hg : OkG g) {L : List Wd} {r : List (List UInt8)} (h : L.map wT = whatW g ++ r) : ∃ M, whatP (gA g) L = .ok (gG g, gR g, M) ∧ M.map wT = r := by
  obtain ⟨ha, _, hG, hR, h5, h6⟩ := hg
  unfold whatW at h
  by_cases h1 : gA g = 1
  · rw [if_pos h1] at h
    obtain ⟨e1, k1⟩ := passP_of h (al := wsG) (by decide)
    obtain ⟨e2, k2⟩ := numP_of k1 (m := 4) hG.1 hG.2 (by omega)
    refine ⟨_, ?_, k2⟩
    unfold whatP
    rw [if_pos h1, show gR g = 0 by omega]
    simp only [e1, e2]
  · rw [if_neg h1] at h
    by_cases h2 : gA g = 2
    · rw [if_pos h2] at h
      refine ⟨L, ?_, h⟩
      unfold whatP
      rw [if_neg h1, if_neg (by omega), show gR g = 0 by omega, show gG g = 0 by omega]
    · rw [if_neg h2] at h
      obtain ⟨e1, k1⟩ := passP_of h (al := wsR) (by decide)
      obtain ⟨e2, k2⟩ := numP_of k1 (m := 100) hR.1 hR.2 (by omega)
      refine ⟨_, ?_, k2⟩
      unfold whatP
      rw [if_neg h1, if_pos (by omega), show gG g = 0 by omega]
      simp only [e1, e2]
theorem actW_in {g : Gt} (hg : OkG g) : actW g ∈ wsA ∧ ((chI wsA (actW g) : Nat) : Int) + 1 = gA g := by
  have ha := hg.1
  unfold actW
  by_cases h1 : gA g = 1
  · rw [if_pos h1, h1]; decide
  · rw [if_neg h1]
    by_cases h2 : gA g = 2
    · rw [if_pos h2, h2]; decide
    · rw [if_neg h2, show gA g = 3 by omega]; decide
theorem grantP_of {g : Gt} (hg : OkG g) {L : List Wd} (h : L.map wT = wordsG g ++ [[]]) : grantP L = .ok g := by
  have h0 : L.map wT = actW g :: (whoW g ++ (whatW g ++ [[]])) := by rw [h]; unfold wordsG; rw [List.cons_append, List.append_assoc]
  obtain ⟨e1, k1⟩ := passP_of h0 (al := wsA) (actW_in hg).1
  obtain ⟨k, M, e2, e3, k2⟩ := whoP_of hg k1
  obtain ⟨M', e4, k3⟩ := whatP_of hg k2
  obtain ⟨e5, _⟩ := passP_of k3 (al := wsE) (by decide)
  unfold grantP
  simp only [e1, e2, e3, (actW_in hg).2, e4, e5]
  rfl
theorem pF_text : ∀ (l : List Gt) (i k : Nat) (acc : List Gt), (∀ g ∈ l, OkG g) → k + l.length ≤ 64 → pF (lnF (text l) i [] []) k acc = (acc ++ l, 0, 0)
  | [], i, k, acc, _, _ => by rw [List.append_nil]; rfl
  | g :: l, i, k, acc, h, hk => by
    rw [List.length_cons] at hk
    obtain ⟨L, h1, h2⟩ := lnF_join (text l) (wordsG g) (by simp [wordsG]) (wordsG_ok g) i []
    have e : text (g :: l) = joinW (wordsG g) ++ 10 :: text l := by
      show lineT g ++ text l = _
      rw [lineT_join, List.append_assoc]
      rfl
    rw [e, h2, pF_cons (by omega), grantP_of (h g (List.mem_cons_self ..)) h1]
    show pF (lnF (text l) _ [] []) (k + 1) (acc ++ [g]) = _
    rw [pF_text l _ _ _ (fun x hx => h x (List.mem_cons_of_mem _ hx)) (by omega), List.append_assoc]
    rfl
/-- the canonical text of a valid policy denotes it -/
theorem parse_text {l : List Gt} (h : OkP l) : parseS (text l) = (l, 0, 0) := by
  have h1 := text_length h.2
  have h2 := h.1
  unfold parseS
  rw [if_neg (by omega)]
  unfold linesS
  rw [pF_text l 0 0 [] h.2 (by omega)]
  rfl
/-! ### what a text denotes is valid -/
theorem numP_range {ws : List Wd} {m : Int} {x : Int × List Wd} (h : numP ws m = .ok x) : 0 ≤ x.1 ∧ x.1 ≤ m ∧ x.2 = ws.tail := by
  unfold numP at h
  split at h
  · cases h
  · split at h
    · cases h
    · cases h
      exact ⟨num_nonneg _, by omega, rfl⟩
theorem passP_range {ws : List Wd} {al : List (List UInt8)} {x : List UInt8 × List Wd} (h : passP ws al = .ok x) : x.1 ∈ al ∧ x.2 = ws.tail := by
  unfold passP at h
  split at h
  · rename_i hm
    cases h
    exact ⟨hm, rfl⟩
  · cases h
theorem whoP_range {k : Nat} {ws : List Wd} {x : Int × Int × List Wd} (h : whoP k ws = .ok x) : ((0 ≤ x.1 ∧ x.1 < 512 ∧ x.2.1 = -1) ∨ (x.1 = -1 ∧ -1 ≤ x.2.1 ∧ x.2.1 ≤ 63)) ∧ (x.2.2 = ws ∨ x.2.2 = ws.tail) := by
  unfold whoP at h
  split at h
  · cases hn : numP ws 511 with
    | error e => rw [hn] at h; cases h
    | ok y =>
      rw [hn] at h
      cases h
      have := numP_range hn
      exact ⟨.inl ⟨this.1, by show y.1 < 512; omega, rfl⟩, .inr this.2.2⟩
  · split at h
    · cases hn : numP ws 63 with
      | error e => rw [hn] at h; cases h
      | ok y =>
        rw [hn] at h
        cases h
        have := numP_range hn
        exact ⟨.inr ⟨rfl, by show -1 ≤ y.1; omega, this.2.1⟩, .inr this.2.2⟩
    · cases h
      exact ⟨.inr ⟨rfl, Int.le_refl _, (by decide : (-1 : Int) ≤ 63)⟩, .inl rfl⟩
theorem whatP_range {a : Int} {ws : List Wd} {x : Int × Int × List Wd} (h : whatP a ws = .ok x) : (0 ≤ x.1 ∧ x.1 ≤ 4) ∧ (0 ≤ x.2.1 ∧ x.2.1 ≤ 100) ∧ (a = 1 ∨ x.1 = 0) ∧ (a = 3 ∨ x.2.1 = 0) := by
  unfold whatP at h
  split at h
  · rename_i h1
    cases hp : passP ws wsG with
    | error e => rw [hp] at h; cases h
    | ok y =>
      simp only [hp] at h
      cases hn : numP y.2 4 with
      | error e => rw [hn] at h; cases h
      | ok z =>
        rw [hn] at h
        cases h
        have := numP_range hn
        exact ⟨⟨this.1, this.2.1⟩, ⟨Int.le_refl _, (by decide : (0 : Int) ≤ 100)⟩, .inl h1, .inr rfl⟩
  · split at h
    · rename_i h1
      cases hp : passP ws wsR with
      | error e => rw [hp] at h; cases h
      | ok y =>
        simp only [hp] at h
        cases hn : numP y.2 100 with
        | error e => rw [hn] at h; cases h
        | ok z =>
          rw [hn] at h
          cases h
          have := numP_range hn
          exact ⟨⟨Int.le_refl _, (by decide : (0 : Int) ≤ 4)⟩, ⟨this.1, this.2.1⟩, .inr rfl, .inl h1⟩
    · cases h
      exact ⟨⟨Int.le_refl _, (by decide : (0 : Int) ≤ 4)⟩, ⟨Int.le_refl _, (by decide : (0 : Int) ≤ 100)⟩, .inr rfl, .inr rfl⟩
theorem grantP_ok {ws : List Wd} {g : Gt} (h : grantP ws = .ok g) : OkG g := by
  unfold grantP at h
  cases h1 : passP ws wsA with
  | error e => rw [h1] at h; cases h
  | ok a =>
    simp only [h1] at h
    cases h2 : passP a.2 wsW with
    | error e => rw [h2] at h; cases h
    | ok k =>
      simp only [h2] at h
      cases h3 : whoP (chI wsW k.1) k.2 with
      | error e => rw [h3] at h; cases h
      | ok w =>
        simp only [h3] at h
        cases h4 : whatP ((chI wsA a.1 : Nat) + 1) w.2.2 with
        | error e => rw [h4] at h; cases h
        | ok x =>
          simp only [h4] at h
          cases h5 : passP x.2.2 wsE with
          | error e => rw [h5] at h; cases h
          | ok y =>
            simp only [h5] at h
            cases h
            have hc : chI wsA a.1 < 3 := chI_lt.2 (passP_range h1).1
            have hw := (whoP_range h3).1
            have hx := whatP_range h4
            exact ⟨⟨by show (1 : Int) ≤ (chI wsA a.1 : Nat) + 1; omega, by show ((chI wsA a.1 : Nat) : Int) + 1 ≤ 3; omega⟩, hw, hx.1, hx.2.1, hx.2.2.1, hx.2.2.2⟩
/-- an offset that a list of words names -/
def inW (ws : List Wd) (v : Int) : Prop := v = 0 ∨ ∃ w ∈ ws, v = wA w
theorem inW_hd (ws : List Wd) : inW ws (hdA ws) := by
  cases ws with
  | nil => exact .inl rfl
  | cons x r => exact .inr ⟨x, List.mem_cons_self .., rfl⟩
theorem inW_tail {ws : List Wd} {v : Int} (h : inW ws.tail v) : inW ws v := by
  cases ws with
  | nil => exact h
  | cons x r => exact h.imp id fun ⟨w, hw, e⟩ => ⟨w, List.mem_cons_of_mem _ hw, e⟩
theorem passP_err {ws : List Wd} {al : List (List UInt8)} {e : Int × Int} (h : passP ws al = .error e) : inW ws e.1 ∧ e.2 ≠ 0 := by
  unfold passP at h
  split at h
  · cases h
  · cases h
    exact ⟨inW_hd ws, (by decide : (3 : Int) ≠ 0)⟩
theorem numP_err {ws : List Wd} {m : Int} {e : Int × Int} (h : numP ws m = .error e) : inW ws e.1 ∧ e.2 ≠ 0 := by
  unfold numP at h
  split at h
  · cases h
    exact ⟨inW_hd ws, (by decide : (3 : Int) ≠ 0)⟩
  · split at h
    · cases h
      exact ⟨inW_hd ws, (by decide : (1 : Int) ≠ 0)⟩
    · cases h
theorem whoP_err {k : Nat} {ws : List Wd} {e : Int × Int} (h : whoP k ws = .error e) : inW ws e.1 ∧ e.2 ≠ 0 := by
  unfold whoP at h
  split at h
  · cases hn : numP ws 511 with
    | error e' => rw [hn] at h; cases h; exact numP_err hn
    | ok y => rw [hn] at h; cases h
  · split at h
    · cases hn : numP ws 63 with
      | error e' => rw [hn] at h; cases h; exact numP_err hn
      | ok y => rw [hn] at h; cases h
    · cases h
theorem whatP_err {a : Int} {ws : List Wd} {e : Int × Int} (h : whatP a ws = .error e) : inW ws e.1 ∧ e.2 ≠ 0 := by
  unfold whatP at h
  split at h
  · cases hp : passP ws wsG with
    | error e' => rw [hp] at h; cases h; exact passP_err hp
    | ok y =>
      simp only [hp] at h
      cases hn : numP y.2 4 with
      | error e' =>
        rw [hn] at h; cases h
        have := numP_err hn
        rw [(passP_range hp).2] at this
        exact ⟨inW_tail this.1, this.2⟩
      | ok z => rw [hn] at h; cases h
  · split at h
    · cases hp : passP ws wsR with
      | error e' => rw [hp] at h; cases h; exact passP_err hp
      | ok y =>
        simp only [hp] at h
        cases hn : numP y.2 100 with
        | error e' =>
          rw [hn] at h; cases h
          have := numP_err hn
          rw [(passP_range hp).2] at this
          exact ⟨inW_tail this.1, this.2⟩
        | ok z => rw [hn] at h; cases h
    · cases h
theorem whatP_sub {a : Int} {ws : List Wd} {x : Int × Int × List Wd} (h : whatP a ws = .ok x) {v : Int} (hv : inW x.2.2 v) : inW ws v := by
  unfold whatP at h
  split at h
  · cases hp : passP ws wsG with
    | error e => rw [hp] at h; cases h
    | ok y =>
      simp only [hp] at h
      cases hn : numP y.2 4 with
      | error e => rw [hn] at h; cases h
      | ok z =>
        rw [hn] at h
        cases h
        have hv : inW z.2 v := hv
        rw [(numP_range hn).2.2, (passP_range hp).2] at hv
        exact inW_tail (inW_tail hv)
  · split at h
    · cases hp : passP ws wsR with
      | error e => rw [hp] at h; cases h
      | ok y =>
        simp only [hp] at h
        cases hn : numP y.2 100 with
        | error e => rw [hn] at h; cases h
        | ok z =>
          rw [hn] at h
          cases h
          have hv : inW z.2 v := hv
          rw [(numP_range hn).2.2, (passP_range hp).2] at hv
          exact inW_tail (inW_tail hv)
    · cases h
      exact hv
theorem grantP_err {ws : List Wd} {e : Int × Int} (h : grantP ws = .error e) : inW ws e.1 ∧ e.2 ≠ 0 := by
  unfold grantP at h
  cases h1 : passP ws wsA with
  | error e' => rw [h1] at h; cases h; exact passP_err h1
  | ok a =>
    simp only [h1] at h
    have t1 : ∀ {v : Int}, inW a.2 v → inW ws v := fun hv => inW_tail ((passP_range h1).2 ▸ hv)
    cases h2 : passP a.2 wsW with
    | error e' => rw [h2] at h; cases h; exact ⟨t1 (passP_err h2).1, (passP_err h2).2⟩
    | ok k =>
      simp only [h2] at h
      have t2 : ∀ {v : Int}, inW k.2 v → inW ws v := fun hv => t1 (inW_tail ((passP_range h2).2 ▸ hv))
      cases h3 : whoP (chI wsW k.1) k.2 with
      | error e' => rw [h3] at h; cases h; exact ⟨t2 (whoP_err h3).1, (whoP_err h3).2⟩
      | ok w =>
        simp only [h3] at h
        have t3 : ∀ {v : Int}, inW w.2.2 v → inW ws v := fun hv => t2 (by
          rcases (whoP_range h3).2 with hw | hw
          · exact hw ▸ hv
          · exact inW_tail (hw ▸ hv))
        cases h4 : whatP ((chI wsA a.1 : Nat) + 1) w.2.2 with
        | error e' => rw [h4] at h; cases h; exact ⟨t3 (whatP_err h4).1, (whatP_err h4).2⟩
        | ok x =>
          simp only [h4] at h
          cases h5 : passP x.2.2 wsE with
          | error e' => rw [h5] at h; cases h; exact ⟨t3 (whatP_sub h4 (passP_err h5).1), (passP_err h5).2⟩
          | ok y => simp only [h5] at h; cases h
theorem lnF_at : ∀ (s : List UInt8) (i : Nat) (c : List UInt8) (line : List Wd), (∀ w ∈ line, 0 ≤ wA w ∧ wA w ≤ (i : Int)) → ∀ l ∈ lnF s i c line, ∀ w ∈ l, 0 ≤ wA w ∧ wA w ≤ ((i + s.length : Nat) : Int) := by
  have hf : ∀ (i : Nat) (c : List UInt8) (line : List Wd), (∀ w ∈ line, 0 ≤ wA w ∧ wA w ≤ (i : Int)) → ∀ w ∈ flush c ((i - c.length : Nat) : Int) line, 0 ≤ wA w ∧ wA w ≤ (i : Int) := fun i c line h w hw => by
    unfold flush at hw
    split at hw
    · exact h w hw
    · rcases List.mem_append.1 hw with hw | hw
      · exact h w hw
      · rw [List.mem_singleton.1 hw]
        show (0 : Int) ≤ ((i - c.length : Nat) : Int) ∧ ((i - c.length : Nat) : Int) ≤ (i : Int)
        omega
  have hn : ∀ (i n : Nat) (line : List Wd), (∀ w ∈ line, 0 ≤ wA w ∧ wA w ≤ (i : Int)) → i ≤ n → ∀ l ∈ fin line i, ∀ w ∈ l, 0 ≤ wA w ∧ wA w ≤ (n : Int) := fun i n line h hin l hl w hw => by
    unfold fin at hl
    split at hl
    · cases hl
    · rw [List.mem_singleton.1 hl] at hw
      rcases List.mem_append.1 hw with hw | hw
      · have := h w hw; omega
      · rw [List.mem_singleton.1 hw]
        show (0 : Int) ≤ (i : Int) ∧ (i : Int) ≤ (n : Int)
        omega
  intro s
  induction s with
  | nil =>
    intro i c line h l hl
    exact hn i _ _ (hf i c line h) (Nat.le_add_right _ _) l hl
  | cons x s ih =>
    intro i c line h l hl
    have e : lnF (x :: s) i c line = if x ≠ 32 ∧ x ≠ 10 then lnF s (i + 1) (c ++ [x]) line else if x = 10 then fin (flush c ((i - c.length : Nat) : Int) line) i ++ lnF s (i + 1) [] [] else lnF s (i + 1) [] (flush c ((i - c.length : Nat) : Int) line) := rfl
    rw [e] at hl
    have hlen : i + (x :: s).length = i + 1 + s.length := by rw [List.length_cons]; omega
    rw [hlen]
    split at hl
    · exact ih (i + 1) (c ++ [x]) line (fun w hw => by have := h w hw; omega) l hl
    · split at hl
      · rcases List.mem_append.1 hl with hl | hl
        · exact hn i _ _ (hf i c line h) (by omega) l hl
        · exact ih (i + 1) [] [] (fun w hw => by cases hw) l hl
      · exact ih (i + 1) [] _ (fun w hw => by have := hf i c line h w hw; omega) l hl
theorem pF_res (n : Int) (hn : 0 ≤ n) : ∀ (ls : List (List Wd)) (k : Nat) (acc : List Gt), (∀ l ∈ ls, ∀ w ∈ l, 0 ≤ wA w ∧ wA w ≤ n) → k ≤ 64 → acc.length = k → (∀ g ∈ acc, OkG g) →
    ((pF ls k acc).2.2 = 0 ∧ (pF ls k acc).2.1 = 0 ∧ OkP (pF ls k acc).1) ∨ ((pF ls k acc).2.2 ≠ 0 ∧ (pF ls k acc).1 = [] ∧ 0 ≤ (pF ls k acc).2.1 ∧ (pF ls k acc).2.1 ≤ n)
  | [], k, acc, _, hk, ha, hg => .inl ⟨rfl, rfl, by show acc.length ≤ 64; omega, hg⟩
  | l :: r, k, acc, h, hk, ha, hg => by
    have hin : ∀ v, inW l v → 0 ≤ v ∧ v ≤ n := fun v hv => by
      rcases hv with hv | ⟨w, hw, hv⟩
      · omega
      · rw [hv]; exact h l (List.mem_cons_self ..) w hw
    by_cases h64 : k = 64
    · have e : pF (l :: r) k acc = ([], hdA l, 2) := if_pos h64
      rw [e]
      exact .inr ⟨(by decide : (2 : Int) ≠ 0), rfl, hin _ (inW_hd l)⟩
    · rw [pF_cons h64]
      cases hp : grantP l with
      | error e =>
        have := grantP_err hp
        exact .inr ⟨this.2, rfl, hin _ this.1⟩
      | ok g =>
        refine pF_res n hn r (k + 1) (acc ++ [g]) (fun x hx => h x (List.mem_cons_of_mem _ hx)) (by omega) (by rw [List.length_append, ha]; rfl) fun x hx => ?_
        rcases List.mem_append.1 hx with hx | hx
        · exact hg x hx
        · rw [List.mem_singleton.1 hx]
          exact grantP_ok hp
/-- what a text denotes is valid; otherwise nothing, and an offset within the text -/
theorem parseS_res (s : List UInt8) : ((parseS s).2.2 = 0 ∧ (parseS s).2.1 = 0 ∧ OkP (parseS s).1) ∨ ((parseS s).2.2 ≠ 0 ∧ (parseS s).1 = [] ∧ 0 ≤ (parseS s).2.1 ∧ (parseS s).2.1 ≤ (s.length : Nat)) := by
  unfold parseS
  split
  · exact .inr ⟨by show (2 : Int) ≠ 0; decide, rfl, Int.le_refl _, Int.natCast_nonneg _⟩
  · refine pF_res _ (Int.natCast_nonneg _) _ 0 [] (fun l hl w hw => ?_) (by omega) rfl (fun g hg => by cases hg)
    have := lnF_at s 0 [] [] (fun w hw => by cases hw) l hl w hw
    rw [Nat.zero_add] at this
    exact this
end Go.Proofs.YthkhgpbjfcmopaaGreatDoor
