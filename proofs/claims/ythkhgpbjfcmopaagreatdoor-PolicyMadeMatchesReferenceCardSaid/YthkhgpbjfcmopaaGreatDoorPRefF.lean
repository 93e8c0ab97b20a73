/-
  The reference of chapter 25: Lines, Parse.
-/
import Derived.Test.YthkhgpbjfcmopaaGreatDoorPRefE
namespace Go.Proofs.YthkhgpbjfcmopaaGreatDoor
open Go Go.RowKit
set_option linter.unusedSimpArgs false
set_option linter.unusedVariables false
set_option maxRecDepth 100000
def flush (c : List UInt8) (at' : Int) (line : List Wd) : List Wd := if c = [] then line else line ++ [(c, at', ())]
def fin (line : List Wd) (i : Nat) : List (List Wd) := if line = [] then [] else [line ++ [([], (i : Int), ())]]
/-- the lines that have words, with the end of the line behind them -/
def lnF : List UInt8 → Nat → List UInt8 → List Wd → List (List Wd)
  | [], i, c, line => fin (flush c ((i - c.length : Nat) : Int) line) i
  | x :: r, i, c, line => if x ≠ 32 ∧ x ≠ 10 then lnF r (i + 1) (c ++ [x]) line else if x = 10 then fin (flush c ((i - c.length : Nat) : Int) line) i ++ lnF r (i + 1) [] [] else lnF r (i + 1) [] (flush c ((i - c.length : Nat) : Int) line)
def linesS (s : List UInt8) : List (List Wd) := lnF s 0 [] []
def cLines : Ctr := { args := [.str], pre := fun x => [List.length x.1 ≤ 100000], res := .slice (.slice wd), own := none, out := fun x => linesS x.1 }
def sLn (s : List UInt8) (i f : Nat) (line : List Wd) (out : List (List Wd)) : AS := ⟨[(0, ⟨.str, s⟩), (3, ⟨.obuf (.slice wd), (0 : Nat)⟩), (4, ⟨.obuf wd, (1 : Nat)⟩), (5, ⟨i64, (f : Int)⟩), (6, ⟨i64, (i : Int)⟩)], [(0, some (.buf 115 (.slice wd) out)), (1, some (.buf 114 wd line))], 2⟩
theorem sepTest (s : List UInt8) (i : Nat) : (bif bif decide ((i : Int) < (s.length : Nat)) then (((s.getD (i : Int).toNat 0).toNat : Nat) : Int) != 32 else false then (((s.getD (i : Int).toNat 0).toNat : Nat) : Int) != 10 else false) = true ↔ i < s.length ∧ s.getD (i : Int).toNat 0 ≠ 32 ∧ s.getD (i : Int).toNat 0 ≠ 10 := by
  have key : ∀ (c : UInt8) (n : Nat) (h : n < 256), ((((c.toNat : Nat) : Int) != (n : Int)) = true ↔ c ≠ UInt8.ofNat n) := fun c n h => by
    rw [bne_iff_ne]
    refine not_congr ⟨fun e => UInt8.toNat_inj.1 (by rw [UInt8.toNat_ofNat']; omega), fun e => by rw [e, UInt8.toNat_ofNat']; omega⟩
  generalize s.getD (i : Int).toNat 0 = c
  have k1 : ((((c.toNat : Nat) : Int) != 32) = true ↔ c ≠ 32) := key c 32 (by omega)
  have k2 : ((((c.toNat : Nat) : Int) != 10) = true ↔ c ≠ 10) := key c 10 (by omega)
  by_cases h : i < s.length
  · rw [decide_eq_true (by omega : (i : Int) < (s.length : Nat))]
    show (bif (((c.toNat : Nat) : Int) != 32) then (((c.toNat : Nat) : Int) != 10) else false) = true ↔ _
    cases h1 : (((c.toNat : Nat) : Int) != 32)
    · exact ⟨fun e => (by cases e), fun e => by rw [k1.2 e.2.1] at h1; cases h1⟩
    · exact ⟨fun e => ⟨h, k1.1 h1, k2.1 e⟩, fun e => k2.2 e.2.2⟩
  · rw [decide_eq_false (by omega : ¬ (i : Int) < (s.length : Nat))]
    exact ⟨fun e => (by cases e), fun e => absurd e.1 h⟩
theorem bufWd {te : TypeId} {x y : List Wd} (h : x = y) : some (OObj.buf te wd x) = some (OObj.buf te wd y) := by rw [h]
theorem bufWds {te : TypeId} {x y : List (List Wd)} (h : x = y) : some (OObj.buf te (.slice wd) x) = some (OObj.buf te (.slice wd) y) := by rw [h]
theorem rlines_ok : CtrOk Tryz.prog pG 66 cLines := by
  refine ctr_of_awp (K := pK) pK_ok Tryz.func66 rfl rfl Tryz.call66 rfl (by decide) (by intro h; cases h) ?_
  rintro w0 X hX ⟨(s : List UInt8), _⟩ hp
  have hl : s.length ≤ 100000 := hp
  change AWP _ _ _ _ _ ⟨[(0, ⟨.str, s⟩)], [], 0⟩ _
  (repeat (first | refine AWP.seq ?_ | refine AWP.skip ?_ | refine AWP.label ?_ | refine AWP.exit ?_ | refine AWP.block ?_ | refine AWP.region hX pK_ok rfl trivial ?_ | refine AWP.region hX pK_ok rfl id ?_ | refine AWP.region hX pK_ok rfl ⟨id, id⟩ ?_))
  refine AWP.loop (ι := Nat × Nat × List Wd × List (List Wd)) (fun t => sLn s t.1 t.2.1 t.2.2.1 t.2.2.2) (fun t => t.2.2.1.length ≤ t.1 ∧ t.2.2.2.length ≤ t.1 ∧ ((t.2.1 ≤ t.1 ∧ t.1 ≤ s.length ∧ t.2.2.2 ++ lnF (s.drop t.1) t.1 ((s.take t.1).drop t.2.1) t.2.2.1 = linesS s) ∨ (t.1 = s.length + 1 ∧ t.2.2.2 = linesS s))) (fun t => s.length + 1 - t.1) (0, 0, [], []) ⟨by simp, by simp, .inl ⟨Nat.le_refl 0, Nat.zero_le _, rfl⟩⟩ ⟨⟨rfl, rfl, rfl, rfl, rfl, trivial⟩, ⟨rfl, rfl, trivial⟩, rfl, rfl⟩ ?_
  rintro ⟨i, f, line, out⟩ ⟨hln, hout, hinv⟩
  have hln : line.length ≤ i := hln
  have hout : out.length ≤ i := hout
  have hinv : (f ≤ i ∧ i ≤ s.length ∧ out ++ lnF (s.drop i) i ((s.take i).drop f) line = linesS s) ∨ (i = s.length + 1 ∧ out = linesS s) := hinv
  show AWP _ _ _ _ _ (sLn s i f line out) _
  unfold sLn
  (repeat (first | refine AWP.seq ?_ | refine AWP.skip ?_ | refine AWP.block ?_ | refine AWP.exit ?_)); refine AWP.region hX pK_ok rfl ?_ ?_
  · trivial
  refine AWP.cond rfl (fun hb => ?_) (fun hb => ?_)
  · have hb : decide ((i : Int) ≤ (s.length : Nat)) = true := hb
    have hb := of_decide_eq_true hb
    obtain ⟨hf, hi, hinv⟩ := hinv.resolve_right fun h => by omega
    have hcl : ((s.take i).drop f).length = i - f := by rw [List.length_drop, List.length_take]; omega
    have n0 : (0 : Int) ≤ (i : Int) := by omega
    (repeat (first | refine AWP.seq ?_ | refine AWP.skip ?_ | refine AWP.block ?_ | refine AWP.exit ?_)); refine AWP.region hX pK_ok rfl ?_ ?_
    · clear hinv
      repeat' (first | exact trivial | assumption | exact n0 | (refine ⟨?_, ?_⟩) | (intro _) | exact Nat.le_of_ble_eq_true rfl | exact Int.natCast_nonneg _ | (simp_all [allP]; done))
    refine AWP.cond rfl (fun hb => ?_) (fun hb => ?_)
    · have hx := (sepTest ..).1 hb
      obtain ⟨hlt, hx1, hx2⟩ := hx
      rw [getD_at (z := (0 : UInt8)) hlt] at hx1 hx2
      have hd : s.drop i = s[i] :: s.drop (i + 1) := List.drop_eq_getElem_cons hlt
      rw [hd] at hinv
      unfold lnF at hinv
      rw [if_pos ⟨hx1, hx2⟩] at hinv
      (repeat (first | refine AWP.seq ?_ | refine AWP.skip ?_ | refine AWP.block ?_ | refine AWP.exit ?_)); refine AWP.region hX pK_ok rfl ?_ ?_
      · exact inR_succ (by omega)
      refine ⟨(i + 1, f, line, out), ⟨by show line.length ≤ i + 1; omega, by show out.length ≤ i + 1; omega, .inl ⟨by show f ≤ i + 1; omega, by show i + 1 ≤ s.length; omega, ?_⟩⟩, by show s.length + 1 - (i + 1) < s.length + 1 - i; omega, ⟨rfl, rfl, rfl, rfl, vSucc _, trivial⟩, ⟨rfl, rfl, trivial⟩, rfl, rfl⟩
      show out ++ lnF (s.drop (i + 1)) (i + 1) ((s.take (i + 1)).drop f) line = linesS s
      rw [← hinv, List.take_succ_eq_append_getElem hlt, List.drop_append_of_le_length (by rw [List.length_take]; omega)]
    have hx := hb
    (repeat (first | refine AWP.skip ?_ | refine AWP.exit ?_))
    have hfl : (((i - ((s.take i).drop f).length : Nat)) : Int) = (f : Int) := by rw [hcl]; omega
    generalize hC : (s.take i).drop f = C at hinv hcl hfl
    have hLl : (flush C f line).length ≤ i + 1 := by
      unfold flush
      split
      · omega
      · rw [List.length_append, List.length_singleton]; omega
    refine AWP.join (σ' := sLn s i f (flush C f line) out) ?_ ?_
    · (repeat (first | refine AWP.seq ?_ | refine AWP.skip ?_ | refine AWP.label ?_ | refine AWP.exit ?_ | refine AWP.block ?_ | refine AWP.region hX pK_ok rfl trivial ?_ | refine AWP.region hX pK_ok rfl id ?_ | refine AWP.region hX pK_ok rfl ⟨id, id⟩ ?_))
      refine AWP.cond rfl (fun hb => ?_) (fun hb => ?_)
      · have hq : decide ((f : Int) < (i : Int)) = true := hb
        have hq := of_decide_eq_true hq
        have q1 : (f : Int) ≤ (i : Int) := by omega
        have q2 : (i : Int) ≤ (s.length : Nat) := by omega
        have q0 : (0 : Int) ≤ (f : Int) := by omega
        have hne : C ≠ [] := fun e => by rw [e] at hcl; simp at hcl; omega
        (repeat (first | refine AWP.seq ?_ | refine AWP.skip ?_ | refine AWP.block ?_ | refine AWP.exit ?_)); refine AWP.region hX pK_ok rfl ?_ ?_
        · exact ⟨q0, q1, q2, by show line.length + 1 ≤ 1000000000; omega⟩
        refine ⟨⟨rfl, rfl, rfl, rfl, rfl, trivial⟩, ⟨rfl, bufWd ?_, trivial⟩, rfl, rfl⟩
        unfold flush
        rw [if_neg hne, ← hC]
        rfl
      · have hq : decide ((f : Int) < (i : Int)) = false := hb
        have hq := of_decide_eq_false hq
        have hne : C = [] := List.eq_nil_of_length_eq_zero (by omega)
        (repeat (first | refine AWP.seq ?_ | refine AWP.skip ?_ | refine AWP.label ?_ | refine AWP.exit ?_ | refine AWP.block ?_ | refine AWP.region hX pK_ok rfl trivial ?_ | refine AWP.region hX pK_ok rfl id ?_ | refine AWP.region hX pK_ok rfl ⟨id, id⟩ ?_))
        refine ⟨⟨rfl, rfl, rfl, rfl, rfl, trivial⟩, ⟨rfl, bufWd ?_, trivial⟩, rfl, rfl⟩
        unfold flush
        rw [if_pos hne]
    have hLe : flush C ((i - C.length : Nat) : Int) line = flush C f line := by rw [hfl]
    generalize hL : flush C f line = L at hLl hLe
    unfold sLn
    (repeat (first | refine AWP.seq ?_ | refine AWP.skip ?_ | refine AWP.block ?_ | refine AWP.exit ?_)); refine AWP.region hX pK_ok rfl ?_ ?_
    · exact inR_succ (by omega)
    (repeat (first | refine AWP.seq ?_ | refine AWP.skip ?_ | refine AWP.block ?_ | refine AWP.exit ?_)); refine AWP.region hX pK_ok rfl ?_ ?_
    · have nlt : (!((i : Int) == ((s.length : Nat) : Int))) = true → (i : Int) < (s.length : Nat) := fun h => by
        have h : ¬ (i : Int) = (s.length : Nat) := by simpa using h
        omega
      clear hinv hx
      repeat' (first | exact trivial | assumption | exact n0 | (refine ⟨?_, ?_⟩) | (intro _) | exact Nat.le_of_ble_eq_true rfl | exact Int.natCast_nonneg _ | (simp_all [allP]; done))
      all_goals exact nlt (by assumption)
    refine AWP.cond rfl (fun hb => ?_) (fun hb => ?_)
    · have hend : i = s.length ∨ (∃ h : i < s.length, s[i] = 10) := by
        by_cases h : i = s.length
        · exact .inl h
        · have hlt : i < s.length := by omega
          refine .inr ⟨hlt, ?_⟩
          have h2 : (bif decide ((i : Int) = (s.length : Nat)) then true else decide ((((s.getD (i : Int).toNat 0).toNat : Nat) : Int) = 10)) = true := hb
          rw [decide_eq_false (by omega : ¬ (i : Int) = (s.length : Nat)), getD_at (z := (0 : UInt8)) hlt] at h2
          have h2 := of_decide_eq_true (show decide ((((s[i]).toNat : Nat) : Int) = 10) = true from h2)
          exact UInt8.toNat_inj.1 (by show (s[i]).toNat = 10; omega)
      have hfin : out ++ fin L i = linesS s ∧ i = s.length ∨ ∃ h : i < s.length, out ++ fin L i ++ lnF (s.drop (i + 1)) (i + 1) [] [] = linesS s := by
        rcases hend with h | ⟨hlt, hx10⟩
        · refine .inl ⟨?_, h⟩
          rw [h, List.drop_length] at hinv
          unfold lnF at hinv
          rw [← h, hLe] at hinv
          exact hinv
        · refine .inr ⟨hlt, ?_⟩
          rw [List.drop_eq_getElem_cons hlt] at hinv
          unfold lnF at hinv
          rw [if_neg (fun h => h.2 hx10), if_pos hx10, hLe, ← List.append_assoc] at hinv
          exact hinv
      have hfl2 : (out ++ fin L i).length ≤ i + 1 := by
        unfold fin
        rw [List.length_append]
        split <;> simp <;> omega
      refine AWP.join (σ' := ⟨[(0, ⟨.str, s⟩), (3, ⟨.obuf (.slice wd), (0 : Nat)⟩), (5, ⟨i64, ((i + 1 : Nat) : Int)⟩), (6, ⟨i64, (i : Int)⟩)], [(0, some (.buf 115 (.slice wd) (out ++ fin L i)))], 1⟩) ?_ ?_
      · (repeat (first | refine AWP.seq ?_ | refine AWP.skip ?_ | refine AWP.label ?_ | refine AWP.exit ?_ | refine AWP.block ?_ | refine AWP.region hX pK_ok rfl trivial ?_ | refine AWP.region hX pK_ok rfl id ?_ | refine AWP.region hX pK_ok rfl ⟨id, id⟩ ?_))
        refine AWP.cond rfl (fun hb => ?_) (fun hb => ?_)
        · have hq : decide (((L.length : Nat) : Int) > 0) = true := hb
          have hq := of_decide_eq_true hq
          have hne : L ≠ [] := fun e => by rw [e] at hq; simp at hq
          (repeat (first | refine AWP.seq ?_ | refine AWP.skip ?_ | refine AWP.block ?_ | refine AWP.exit ?_)); refine AWP.region hX pK_ok rfl ?_ ?_
          · show L.length + 1 ≤ 1000000000
            omega
          (repeat (first | refine AWP.seq ?_ | refine AWP.skip ?_ | refine AWP.block ?_ | refine AWP.exit ?_)); refine AWP.region hX pK_ok rfl ?_ ?_
          · show out.length + 1 ≤ 1000000000
            omega
          refine ⟨⟨rfl, rfl, rfl, rfl, trivial⟩, ⟨bufWds ?_, trivial⟩, rfl, rfl⟩
          unfold fin
          rw [if_neg hne]
          rfl
        · have hq : decide (((L.length : Nat) : Int) > 0) = false := hb
          have hq := of_decide_eq_false hq
          have hne : L = [] := List.eq_nil_of_length_eq_zero (by omega)
          (repeat (first | refine AWP.seq ?_ | refine AWP.skip ?_ | refine AWP.label ?_ | refine AWP.exit ?_ | refine AWP.block ?_ | refine AWP.region hX pK_ok rfl trivial ?_ | refine AWP.region hX pK_ok rfl id ?_ | refine AWP.region hX pK_ok rfl ⟨id, id⟩ ?_))
          refine ⟨⟨rfl, rfl, rfl, rfl, trivial⟩, ⟨bufWds ?_, trivial⟩, rfl, rfl⟩
          unfold fin
          rw [if_pos hne, List.append_nil]
      · (repeat (first | refine AWP.seq ?_ | refine AWP.skip ?_ | refine AWP.label ?_ | refine AWP.exit ?_ | refine AWP.block ?_ | refine AWP.region hX pK_ok rfl trivial ?_ | refine AWP.region hX pK_ok rfl id ?_ | refine AWP.region hX pK_ok rfl ⟨id, id⟩ ?_))
        (repeat (first | refine AWP.seq ?_ | refine AWP.skip ?_ | refine AWP.block ?_ | refine AWP.exit ?_)); refine AWP.region hX pK_ok rfl ?_ ?_
        · exact inR_succ (by omega)
        refine ⟨(i + 1, i + 1, [], out ++ fin L i), ⟨Nat.zero_le _, hfl2, ?_⟩, by show s.length + 1 - (i + 1) < s.length + 1 - i; omega, ⟨rfl, rfl, rfl, rfl, vSucc _, trivial⟩, ⟨rfl, rfl, trivial⟩, rfl, rfl⟩
        rcases hfin with ⟨h1, h2⟩ | ⟨hlt, h1⟩
        · exact .inr ⟨by show i + 1 = s.length + 1; omega, h1⟩
        · refine .inl ⟨Nat.le_refl _, by show i + 1 ≤ s.length; omega, ?_⟩
          show out ++ fin L i ++ lnF (s.drop (i + 1)) (i + 1) ((s.take (i + 1)).drop (i + 1)) [] = linesS s
          rw [show (s.take (i + 1)).drop (i + 1) = [] from List.drop_eq_nil_of_le (by rw [List.length_take]; omega)]
          exact h1
    · have h2 : (bif decide ((i : Int) = (s.length : Nat)) then true else decide ((((s.getD (i : Int).toNat 0).toNat : Nat) : Int) = 10)) = false := hb
      have hne : ¬ (i : Int) = (s.length : Nat) := fun e => by rw [decide_eq_true e] at h2; cases h2
      have hlt : i < s.length := by omega
      rw [decide_eq_false hne, getD_at (z := (0 : UInt8)) hlt] at h2
      have h10 : s[i] ≠ 10 := fun e => by rw [e] at h2; cases h2
      have h32 : ¬ (s[i] ≠ 32 ∧ s[i] ≠ 10) := fun h => by
        have := (sepTest s i).2 ⟨hlt, by rw [getD_at (z := (0 : UInt8)) hlt]; exact h.1, by rw [getD_at (z := (0 : UInt8)) hlt]; exact h.2⟩
        exact Bool.noConfusion (this.symm.trans hx)
      rw [List.drop_eq_getElem_cons hlt] at hinv
      unfold lnF at hinv
      rw [if_neg h32, if_neg h10, hLe] at hinv
      (repeat (first | refine AWP.seq ?_ | refine AWP.skip ?_ | refine AWP.label ?_ | refine AWP.exit ?_ | refine AWP.block ?_ | refine AWP.region hX pK_ok rfl trivial ?_ | refine AWP.region hX pK_ok rfl id ?_ | refine AWP.region hX pK_ok rfl ⟨id, id⟩ ?_))
      (repeat (first | refine AWP.seq ?_ | refine AWP.skip ?_ | refine AWP.block ?_ | refine AWP.exit ?_)); refine AWP.region hX pK_ok rfl ?_ ?_
      · exact inR_succ (by omega)
      refine ⟨(i + 1, i + 1, L, out), ⟨hLl, by show out.length ≤ i + 1; omega, .inl ⟨Nat.le_refl _, by show i + 1 ≤ s.length; omega, ?_⟩⟩, by show s.length + 1 - (i + 1) < s.length + 1 - i; omega, ⟨rfl, rfl, rfl, rfl, vSucc _, trivial⟩, ⟨rfl, rfl, trivial⟩, rfl, rfl⟩
      show out ++ lnF (s.drop (i + 1)) (i + 1) ((s.take (i + 1)).drop (i + 1)) L = linesS s
      rw [show (s.take (i + 1)).drop (i + 1) = [] from List.drop_eq_nil_of_le (by rw [List.length_take]; omega)]
      exact hinv
  · have hb : decide ((i : Int) ≤ (s.length : Nat)) = false := hb
    have hb := of_decide_eq_false hb
    obtain ⟨_, h⟩ := hinv.resolve_left fun h => by omega
    refine AWP.frz hX 3 ?_
    (repeat (first | refine AWP.seq ?_ | refine AWP.skip ?_ | refine AWP.label ?_ | refine AWP.exit ?_ | refine AWP.block ?_ | refine AWP.region hX pK_ok rfl trivial ?_ | refine AWP.region hX pK_ok rfl id ?_ | refine AWP.region hX pK_ok rfl ⟨id, id⟩ ?_))
    exact AWP.ret ⟨.inr rfl, done1 rfl trivial rfl rfl h⟩
end Go.Proofs.YthkhgpbjfcmopaaGreatDoor
