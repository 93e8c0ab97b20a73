/-
  slices.Index and slices.Contains of texts.
  strings.IndexByte.
  Package policy: split.
-/
import Derived.Test.YthkhgpbjfcmopaaGreatDoorPPrgA
import Derived.Lib.Strings
import Derived.Lib.Walk
import Derived.Lib.Bytealg
import Derived.Test.YthkhgpbjfcmopaaGreatDoorAbsMid
namespace Go.Proofs.YthkhgpbjfcmopaaGreatDoor
open Go Go.RowKit
set_option linter.unusedSimpArgs false
set_option linter.unusedVariables false
set_option maxRecDepth 100000
def cIdxS : Ctr := { args := [.slice .str, .str], pre := fun _ => [], res := i64, own := none, out := fun x => idx (fun y => decide (x.2.1 = y)) x.1 }
theorem indexS_ok : CtrOk Tryz.prog pG 137 cIdxS := by
  refine ctr_of_awp (K := pK) pK_ok Tryz.func137 rfl rfl Tryz.call137 rfl (by decide) (by intro h; cases h) ?_
  rintro w0 X hX ⟨(l : List (List UInt8)), (x : List UInt8), _⟩ hp
  change AWP _ _ _ _ _ ⟨[(0, ⟨.slice .str, l⟩), (1, ⟨.str, x⟩)], [], 0⟩ _
  refine AWP.len 0 rfl fun hl => ?_
  unfold maxLen at hl
  (repeat (first | refine AWP.seq ?_ | refine AWP.skip ?_ | refine AWP.label ?_ | refine AWP.exit ?_ | refine AWP.block ?_ | refine AWP.region hX pK_ok rfl trivial ?_ | refine AWP.region hX pK_ok rfl id ?_ | refine AWP.region hX pK_ok rfl ⟨id, id⟩ ?_))
  refine AWP.loop (ι := Nat) (fun k => ⟨[(0, ⟨.slice .str, l⟩), (1, ⟨.str, x⟩), (7, ⟨i64, ((l.length : Nat) : Int)⟩), (8, ⟨i64, (k : Int)⟩)], [], 0⟩) (fun k => k ≤ l.length ∧ ∀ j (hj : j < l.length), j < k → decide (x = l[j]) = false) (fun k => l.length - k) 0 ⟨by omega, by omega⟩ ⟨⟨rfl, rfl, rfl, rfl, trivial⟩, trivial, rfl, rfl⟩ ?_
  rintro k ⟨hk, hn⟩
  (repeat (first | refine AWP.seq ?_ | refine AWP.skip ?_ | refine AWP.block ?_ | refine AWP.exit ?_)); refine AWP.region hX pK_ok rfl ?_ ?_
  · trivial
  refine AWP.seq ?_
  refine AWP.cond rfl (fun hb => ?_) (fun hb => ?_)
  · have hb : decide ((k : Int) < (l.length : Nat)) = true := hb
    have hb := of_decide_eq_true hb
    have hlt : k < l.length := by omega
    have n0 : (0 : Int) ≤ (k : Int) := by omega
    (repeat (first | refine AWP.seq ?_ | refine AWP.skip ?_ | refine AWP.block ?_ | refine AWP.exit ?_)); refine AWP.region hX pK_ok rfl ?_ ?_
    · trivial
    (repeat (first | refine AWP.seq ?_ | refine AWP.skip ?_ | refine AWP.block ?_ | refine AWP.exit ?_)); refine AWP.region hX pK_ok rfl ?_ ?_
    · exact ⟨n0, hb⟩
    refine AWP.cond rfl (fun hb => ?_) (fun hb => ?_)
    · have hc : eqb .str x (l.getD (k : Int).toNat []) = true := hb
      rw [getD_at hlt] at hc
      have hc : x = l[k] := eqb_iff.1 hc
      (repeat (first | refine AWP.seq ?_ | refine AWP.skip ?_ | refine AWP.label ?_ | refine AWP.exit ?_ | refine AWP.block ?_ | refine AWP.region hX pK_ok rfl trivial ?_ | refine AWP.region hX pK_ok rfl id ?_ | refine AWP.region hX pK_ok rfl ⟨id, id⟩ ?_))
      refine AWP.ret ⟨.inr rfl, done1 rfl trivial rfl rfl ?_⟩
      show (k : Int) = idx _ l
      exact (idx_some hlt (decide_eq_true hc) fun j hj => hn j _ hj).symm
    · have hc : eqb .str x (l.getD (k : Int).toNat []) = false := hb
      rw [getD_at hlt] at hc
      have hc : ¬ x = l[k] := fun e => by rw [eqb_iff.2 e] at hc; cases hc
      (repeat (first | refine AWP.seq ?_ | refine AWP.skip ?_ | refine AWP.block ?_ | refine AWP.exit ?_)); refine AWP.region hX pK_ok rfl ?_ ?_
      · exact inR_succ (by omega)
      exact ⟨k + 1, ⟨by omega, fun j hj hlt => by
        by_cases e : j = k
        · subst e; exact decide_eq_false hc
        · exact hn j hj (by omega)⟩, by omega, ⟨rfl, rfl, rfl, vSucc _, trivial⟩, trivial, rfl, rfl⟩
  · have hb : decide ((k : Int) < (l.length : Nat)) = false := hb
    have hb := of_decide_eq_false hb
    have : k = l.length := by omega
    subst this
    (repeat (first | refine AWP.seq ?_ | refine AWP.skip ?_ | refine AWP.label ?_ | refine AWP.exit ?_ | refine AWP.block ?_ | refine AWP.region hX pK_ok rfl trivial ?_ | refine AWP.region hX pK_ok rfl id ?_ | refine AWP.region hX pK_ok rfl ⟨id, id⟩ ?_))
    refine AWP.ret ⟨.inr rfl, done1 rfl trivial rfl rfl ?_⟩
    show (-1 : Int) = idx _ l
    exact (idx_none fun j hj => hn j hj hj).symm
def cHasS : Ctr := { args := [.slice .str, .str], pre := fun _ => [], res := .bool, own := none, out := fun x => decide (x.2.1 ∈ x.1) }
def kQQ : Kn := { pK with C := [(137, cIdxS)] }
theorem kQQ_ok : KnOk Tryz.prog pG kQQ := pK_ok.with (.cons indexS_ok .nil)
theorem containsS_ok : CtrOk Tryz.prog pG 115 cHasS := by
  refine ctr_of_awp (K := kQQ) kQQ_ok Tryz.func115 rfl rfl Tryz.call115 rfl (by decide) (by intro h; cases h) ?_
  rintro w0 X hX ⟨(l : List (List UInt8)), (x : List UInt8), _⟩ hp
  change AWP _ _ _ _ _ ⟨[(0, ⟨.slice .str, l⟩), (1, ⟨.str, x⟩)], [], 0⟩ _
  (repeat (first | refine AWP.seq ?_ | refine AWP.skip ?_ | refine AWP.label ?_ | refine AWP.exit ?_ | refine AWP.block ?_ | refine AWP.region hX kQQ_ok rfl trivial ?_ | refine AWP.region hX kQQ_ok rfl id ?_ | refine AWP.region hX kQQ_ok rfl ⟨id, id⟩ ?_))
  refine AWP.ret ⟨.inr rfl, done1 rfl trivial rfl rfl ?_⟩
  show decide (idx (fun y => decide (x = y)) l ≥ 0) = decide (x ∈ l)
  rw [idx_any, Bool.eq_iff_iff, decide_eq_true_iff, List.any_eq_true]
  constructor
  · rintro ⟨y, hy, e⟩
    rw [of_decide_eq_true e]
    exact hy
  · exact fun h => ⟨x, h, decide_eq_true rfl⟩
end Go.Proofs.YthkhgpbjfcmopaaGreatDoor
namespace Go.Proofs.YthkhgpbjfcmopaaGreatDoor
open Go Go.RowKit
set_option linter.unusedSimpArgs false
set_option linter.unusedVariables false
set_option maxRecDepth 100000
set_option maxHeartbeats 1000000 in
theorem liteIndex_call (s : ByteArray) (c : Int) (w : World) :
    Calls Tryz.prog 114 #[.string s, .int .u8 c] w fun e w' => e = .returned (.int .i64 (Lib.indexByte s.data.toList c.toNat.toUInt8)) ∧ w' = w := by
  go_enter Tryz.func114, Tryz.ntmps114
  go_wp2
  rw [run_callFunc_extern Tryz.func136 (by kernel_rfl) (by kernel_rfl) (by kernel_rfl) (e := Extern.BytealgIndexByte.indexByte) (by kernel_rfl), Lib.run_indexByteString]
  simp only [Result.andThen]
  rw [Oper.upon_value]
  go_wp2
  go_ret
  exact ⟨rfl, rfl⟩
def cLiteI : Ctr := { args := [.str, u8], pre := fun _ => [], res := i64, own := none, out := fun x => Lib.indexByte x.1 x.2.1 }
theorem liteIndex_ok : CtrOk Tryz.prog pG 114 cLiteI := by
  refine ⟨Tryz.call114, fun w O xs vs hO hr hp hG => ?_⟩
  obtain ⟨(s : List UInt8), (c : UInt8), _⟩ := xs
  obtain ⟨v1, r1, rfl, e1, v2, r2, rfl, e2, rfl⟩ := hr
  have e1 : [v1] = [Value.string ⟨s.toArray⟩] ∧ s.length ≤ maxLen := e1
  have e2 : [v2] = [Value.int .u8 ((c.toNat : Nat) : Int)] := e2
  obtain ⟨e1, _⟩ := e1
  cases e1
  cases e2
  refine (liteIndex_call ⟨s.toArray⟩ ((c.toNat : Nat) : Int) w).mono ?_
  rintro e w' ⟨rfl, rfl⟩
  refine ⟨_, rfl, Below.refl _ _, fun β => ?_⟩
  show [Value.int .i64 (Lib.indexByte s (((c.toNat : Nat) : Int).toNat.toUInt8))] = [Value.int .i64 (Lib.indexByte s c)]
  rw [Int.toNat_natCast, show c.toNat.toUInt8 = c from UInt8.ofNat_toNat]
def kQR : Kn := { pK with C := [(114, cLiteI)] }
theorem kQR_ok : KnOk Tryz.prog pG kQR := pK_ok.with (.cons liteIndex_ok .nil)
theorem indexByte_ok : CtrOk Tryz.prog pG 94 cLiteI := by
  refine ctr_of_awp (K := kQR) kQR_ok Tryz.func94 rfl rfl Tryz.call94 rfl (by decide) (by intro h; cases h) ?_
  rintro w0 X hX ⟨(s : List UInt8), (c : UInt8), _⟩ hp
  change AWP _ _ _ _ _ ⟨[(0, ⟨.str, s⟩), (1, ⟨u8, c⟩)], [], 0⟩ _
  (repeat (first | refine AWP.seq ?_ | refine AWP.skip ?_ | refine AWP.label ?_ | refine AWP.exit ?_ | refine AWP.block ?_ | refine AWP.region hX kQR_ok rfl trivial ?_ | refine AWP.region hX kQR_ok rfl id ?_ | refine AWP.region hX kQR_ok rfl ⟨id, id⟩ ?_))
  exact AWP.ret ⟨.inr rfl, done1 rfl trivial rfl rfl rfl⟩
end Go.Proofs.YthkhgpbjfcmopaaGreatDoor
namespace Go.Proofs.YthkhgpbjfcmopaaGreatDoor
open Go Go.RowKit
set_option linter.unusedSimpArgs false
set_option linter.unusedVariables false
set_option maxRecDepth 100000
abbrev Wp := List UInt8 × Int × Unit
def flushP (c : List UInt8) (at' : Int) (out : List Wp) : List Wp := if c = [] then out else out ++ [(c, at', ())]
/-- the words of a line from an offset on, and the end of the line -/
def spF : List UInt8 → Nat → List UInt8 → List Wp → List Wp
  | [], i, c, out => flushP c ((i - c.length : Nat) : Int) out ++ [([], (i : Int), ())]
  | x :: r, i, c, out => if x ≠ 32 then spF r (i + 1) (c ++ [x]) out else spF r (i + 1) [] (flushP c ((i - c.length : Nat) : Int) out)
def splitS (s : List UInt8) (a : Nat) : List Wp := spF s a [] []
theorem spF_word (p : List UInt8) (hp : ∀ x ∈ p, x ≠ 32) (r : List UInt8) : ∀ (i : Nat) (c : List UInt8) (out : List Wp), spF (p ++ r) i c out = spF r (i + p.length) (c ++ p) out := by
  induction p with
  | nil => intro i c out; rw [List.append_nil]; rfl
  | cons x p ih =>
    intro i c out
    rw [List.cons_append]
    show (if x ≠ 32 then _ else _) = _
    rw [if_pos (hp x (List.mem_cons_self ..)), ih (fun y hy => hp y (List.mem_cons_of_mem _ hy)), List.length_cons, List.append_assoc, show i + 1 + p.length = i + (p.length + 1) by omega]
    rfl
theorem ix_spec (l : List UInt8) (c : UInt8) : (Lib.indexByte l c = -1 ∧ ∀ x ∈ l, x ≠ c) ∨ ∃ n : Nat, Lib.indexByte l c = (n : Int) ∧ n < l.length ∧ (∀ x ∈ l.take n, x ≠ c) ∧ l.drop n = c :: l.drop (n + 1) := by
  induction l with
  | nil => exact .inl ⟨rfl, by simp⟩
  | cons b l ih =>
    unfold Lib.indexByte
    by_cases h : b = c
    · refine .inr ⟨0, by rw [if_pos (by simp [h])]; rfl, by simp, by simp, by simp [h]⟩
    · rw [if_neg (by simp [h])]
      rcases ih with ⟨h1, h2⟩ | ⟨n, h1, h2, h3, h4⟩
      · refine .inl ⟨by rw [h1]; rfl, fun x hx => ?_⟩
        rcases List.mem_cons.1 hx with rfl | hx
        · exact h
        · exact h2 x hx
      · refine .inr ⟨n + 1, ?_, by simp; omega, fun x hx => ?_, by simpa using h4⟩
        · rw [h1, if_neg (by simp)]
          omega
        · rw [List.take_succ_cons] at hx
          rcases List.mem_cons.1 hx with rfl | hx
          · exact h
          · exact h3 x hx
def cSplit : Ctr := { args := [.str, i64], pre := fun x => [List.length x.1 ≤ 100000, 0 ≤ x.2.1, x.2.1 ≤ 100000], res := .slice wd, own := none, out := fun x => splitS x.1 x.2.1.toNat }
def kQS : Kn := { pK with C := [(94, cLiteI)] }
theorem kQS_ok : KnOk Tryz.prog pG kQS := pK_ok.with (.cons indexByte_ok .nil)
theorem bufWp {te : TypeId} {x y : List Wp} (h : x = y) : some (OObj.buf te wd x) = some (OObj.buf te wd y) := by rw [h]
def sSp (s : List UInt8) (a i : Nat) (n : Int) (out : List Wp) : AS := ⟨[(0, ⟨.str, s⟩), (1, ⟨i64, (a : Int)⟩), (5, ⟨.obuf wd, (0 : Nat)⟩), (6, ⟨i64, (i : Int)⟩), (7, ⟨i64, n⟩)], [(0, some (.buf 161 wd out))], 1⟩
theorem split_ok : CtrOk Tryz.prog pG 63 cSplit := by
  refine ctr_of_awp (K := kQS) kQS_ok Tryz.func63 rfl rfl Tryz.call63 rfl (by decide) (by intro h; cases h) ?_
  rintro w0 X hX ⟨(s : List UInt8), (b : Int), _⟩ hp
  obtain ⟨hl, hb0, hb1⟩ : s.length ≤ 100000 ∧ 0 ≤ b ∧ b ≤ 100000 := hp
  obtain ⟨a, rfl⟩ := Int.eq_ofNat_of_zero_le hb0
  change AWP _ _ _ _ _ ⟨[(0, ⟨.str, s⟩), (1, ⟨i64, (a : Int)⟩)], [], 0⟩ _
  (repeat (first | refine AWP.seq ?_ | refine AWP.skip ?_ | refine AWP.label ?_ | refine AWP.exit ?_ | refine AWP.block ?_ | refine AWP.region hX kQS_ok rfl trivial ?_ | refine AWP.region hX kQS_ok rfl id ?_ | refine AWP.region hX kQS_ok rfl ⟨id, id⟩ ?_))
  refine AWP.nilBuf hX 5 161 wd rfl rfl rfl ?_
  refine AWP.loop (ι := Nat × List Wp) (fun t => ⟨[(0, ⟨.str, s⟩), (1, ⟨i64, (a : Int)⟩), (5, ⟨.obuf wd, (0 : Nat)⟩), (6, ⟨i64, (t.1 : Int)⟩)], [(0, some (.buf 161 wd t.2))], 1⟩) (fun t => t.2.length ≤ t.1 ∧ ((t.1 ≤ s.length ∧ spF (s.drop t.1) (a + t.1) [] t.2 = splitS s a) ∨ (t.1 = s.length + 1 ∧ t.2 ++ [([], ((a + s.length : Nat) : Int), ())] = splitS s a))) (fun t => s.length + 1 - t.1) (0, []) ⟨by simp, .inl ⟨Nat.zero_le _, rfl⟩⟩ ⟨⟨rfl, rfl, rfl, rfl, trivial⟩, ⟨rfl, trivial⟩, rfl, rfl⟩ ?_
  rintro ⟨i, out⟩ ⟨ho, hinv⟩
  have ho : out.length ≤ i := ho
  have hinv : (i ≤ s.length ∧ spF (s.drop i) (a + i) [] out = splitS s a) ∨ (i = s.length + 1 ∧ out ++ [([], ((a + s.length : Nat) : Int), ())] = splitS s a) := hinv
  (repeat (first | refine AWP.seq ?_ | refine AWP.skip ?_ | refine AWP.block ?_ | refine AWP.exit ?_)); refine AWP.region hX kQS_ok rfl ?_ ?_
  · trivial
  refine AWP.cond rfl (fun hb => ?_) (fun hb => ?_)
  · have hb : decide ((i : Int) < (s.length : Nat)) = true := hb
    have hb := of_decide_eq_true hb
    have hlt : i < s.length := by omega
    obtain ⟨_, hinv⟩ := hinv.resolve_right fun h => by omega
    have n0 : (0 : Int) ≤ (i : Int) := by omega
    have n1 : (i : Int) ≤ (s.length : Nat) := by omega
    obtain ⟨N, hN, hNl, hp, hrest⟩ : ∃ N : Nat, (N : Int) = (if Lib.indexByte (s.drop i) 32 < 0 then (s.length : Int) - i else Lib.indexByte (s.drop i) 32) ∧ i + N ≤ s.length ∧ (∀ x ∈ (s.drop i).take N, x ≠ 32) ∧ (i + N = s.length ∨ (i + N < s.length ∧ s.drop (i + N) = 32 :: s.drop (i + N + 1))) := by
      rcases ix_spec (s.drop i) 32 with ⟨h1, h2⟩ | ⟨n, h1, h2, h3, h4⟩
      · exact ⟨s.length - i, by rw [h1, if_pos (by decide)]; omega, by omega, fun x hx => h2 x (List.mem_of_mem_take hx), .inl (by omega)⟩
      · rw [List.length_drop] at h2
        rw [List.drop_drop, List.drop_drop] at h4
        exact ⟨n, by rw [h1, if_neg (by omega)], by omega, h3, .inr ⟨by omega, h4⟩⟩
    have hpl : ((s.drop i).take N).length = N := by rw [List.length_take, List.length_drop]; omega
    have hsplit : s.drop i = (s.drop i).take N ++ s.drop (i + N) := by rw [← List.drop_drop, List.take_append_drop]
    have hnext : (i + N + 1 ≤ s.length ∧ spF (s.drop (i + N + 1)) (a + (i + N + 1)) [] (flushP ((s.drop i).take N) ((a + i : Nat) : Int) out) = splitS s a) ∨ (i + N + 1 = s.length + 1 ∧ flushP ((s.drop i).take N) ((a + i : Nat) : Int) out ++ [([], ((a + s.length : Nat) : Int), ())] = splitS s a) := by
      rw [hsplit, spF_word _ hp, List.nil_append, hpl] at hinv
      rcases hrest with h | ⟨h1, h2⟩
      · refine .inr ⟨by omega, ?_⟩
        rw [h, List.drop_length] at hinv
        unfold spF at hinv
        rw [hpl, show a + i + N - N = a + i by omega, show a + i + N = a + s.length by omega] at hinv
        exact hinv
      · refine .inl ⟨by omega, ?_⟩
        rw [h2] at hinv
        unfold spF at hinv
        rw [if_neg (fun h => h rfl), hpl, show a + i + N - N = a + i by omega, show a + i + N + 1 = a + (i + N + 1) by omega] at hinv
        exact hinv
    generalize hpp : (s.drop i).take N = p at hp hpl hnext
    (repeat (first | refine AWP.seq ?_ | refine AWP.skip ?_ | refine AWP.block ?_ | refine AWP.exit ?_)); refine AWP.region hX kQS_ok rfl ?_ ?_
    · exact ⟨n0, n1⟩
    refine AWP.join (σ' := sSp s a i (N : Int) out) ?_ ?_
    · (repeat (first | refine AWP.seq ?_ | refine AWP.skip ?_ | refine AWP.label ?_ | refine AWP.exit ?_ | refine AWP.block ?_ | refine AWP.region hX kQS_ok rfl trivial ?_ | refine AWP.region hX kQS_ok rfl id ?_ | refine AWP.region hX kQS_ok rfl ⟨id, id⟩ ?_))
      refine AWP.cond rfl (fun hb => ?_) (fun hb => ?_)
      · have hq : decide (Lib.indexByte (s.drop i) 32 < 0) = true := hb
        have hq := of_decide_eq_true hq
        rw [if_pos hq] at hN
        (repeat (first | refine AWP.seq ?_ | refine AWP.skip ?_ | refine AWP.block ?_ | refine AWP.exit ?_)); refine AWP.region hX kQS_ok rfl ?_ ?_
        · exact inR_small (by show _ ≤ (s.length : Int) - i; omega) (by show (s.length : Int) - i ≤ _; omega)
        exact ⟨⟨rfl, rfl, rfl, rfl, vI64 hN.symm, trivial⟩, ⟨rfl, trivial⟩, rfl, rfl⟩
      · have hq : decide (Lib.indexByte (s.drop i) 32 < 0) = false := hb
        have hq := of_decide_eq_false hq
        rw [if_neg hq] at hN
        (repeat (first | refine AWP.seq ?_ | refine AWP.skip ?_ | refine AWP.label ?_ | refine AWP.exit ?_ | refine AWP.block ?_ | refine AWP.region hX kQS_ok rfl trivial ?_ | refine AWP.region hX kQS_ok rfl id ?_ | refine AWP.region hX kQS_ok rfl ⟨id, id⟩ ?_))
        exact ⟨⟨rfl, rfl, rfl, rfl, vI64 hN.symm, trivial⟩, ⟨rfl, trivial⟩, rfl, rfl⟩
    refine AWP.join (σ' := sSp s a i (N : Int) (flushP p ((a + i : Nat) : Int) out)) ?_ ?_
    · unfold sSp
      (repeat (first | refine AWP.seq ?_ | refine AWP.skip ?_ | refine AWP.label ?_ | refine AWP.exit ?_ | refine AWP.block ?_ | refine AWP.region hX kQS_ok rfl trivial ?_ | refine AWP.region hX kQS_ok rfl id ?_ | refine AWP.region hX kQS_ok rfl ⟨id, id⟩ ?_))
      refine AWP.cond rfl (fun hb => ?_) (fun hb => ?_)
      · have hq : decide ((N : Int) > 0) = true := hb
        have hq := of_decide_eq_true hq
        have hne : p ≠ [] := fun e => by rw [e] at hpl; simp at hpl; omega
        have i1 : inR .i64 ((i : Int) + N) := inR_small (by omega) (by omega)
        have i2 : inR .i64 ((a : Int) + i) := inR_small (by omega) (by omega)
        have q1 : (i : Int) ≤ (i : Int) + N := by omega
        have q2 : (i : Int) + N ≤ (s.length : Nat) := by omega
        have q3 : (0 : Int) ≤ (i : Int) + N := by omega
        (repeat (first | refine AWP.seq ?_ | refine AWP.skip ?_ | refine AWP.block ?_ | refine AWP.exit ?_)); refine AWP.region hX kQS_ok rfl ?_ ?_
        · exact ⟨i1, n0, q1, q2, i2, by show out.length + 1 ≤ 1000000000; omega⟩
        refine ⟨⟨rfl, rfl, rfl, rfl, rfl, trivial⟩, ⟨bufWp ?_, trivial⟩, rfl, rfl⟩
        unfold flushP
        rw [if_neg hne]
        show out ++ [((s.take ((i : Int) + N).toNat).drop (i : Int).toNat, (a : Int) + i, ())] = _
        rw [show ((i : Int) + N).toNat = i + N by omega, Int.toNat_natCast, ← hpp, List.drop_take, show i + N - i = N by omega]
        rfl
      · have hq : decide ((N : Int) > 0) = false := hb
        have hq := of_decide_eq_false hq
        have hne : p = [] := List.eq_nil_of_length_eq_zero (by omega)
        (repeat (first | refine AWP.seq ?_ | refine AWP.skip ?_ | refine AWP.label ?_ | refine AWP.exit ?_ | refine AWP.block ?_ | refine AWP.region hX kQS_ok rfl trivial ?_ | refine AWP.region hX kQS_ok rfl id ?_ | refine AWP.region hX kQS_ok rfl ⟨id, id⟩ ?_))
        refine ⟨⟨rfl, rfl, rfl, rfl, rfl, trivial⟩, ⟨bufWp ?_, trivial⟩, rfl, rfl⟩
        unfold flushP
        rw [if_pos hne]
    have hfl : (flushP p ((a + i : Nat) : Int) out).length ≤ i + N + 1 := by
      unfold flushP
      split
      · omega
      · rw [List.length_append, List.length_singleton]; omega
    generalize flushP p ((a + i : Nat) : Int) out = out' at hnext hfl
    unfold sSp
    have i3 : inR .i64 ((N : Int) + 1) := inR_small (by omega) (by omega)
    have i4 : inR .i64 ((i : Int) + ((N : Int) + 1)) := inR_small (by omega) (by omega)
    (repeat (first | refine AWP.seq ?_ | refine AWP.skip ?_ | refine AWP.block ?_ | refine AWP.exit ?_)); refine AWP.region hX kQS_ok rfl ?_ ?_
    · exact ⟨i3, i4⟩
    exact ⟨(i + N + 1, out'), ⟨hfl, hnext⟩, by show s.length + 1 - (i + N + 1) < s.length + 1 - i; omega, ⟨rfl, rfl, rfl, vI64 (by show (i : Int) + ((N : Int) + 1) = ((i + N + 1 : Nat) : Int); omega), trivial⟩, ⟨rfl, trivial⟩, rfl, rfl⟩
  · have hb : decide ((i : Int) < (s.length : Nat)) = false := hb
    have hb := of_decide_eq_false hb
    have hres : out ++ [([], ((a + s.length : Nat) : Int), ())] = splitS s a := by
      rcases hinv with ⟨h1, h2⟩ | ⟨_, h⟩
      · have : i = s.length := by omega
        subst this
        rw [List.drop_length] at h2
        exact h2
      · exact h
    have hol : out.length ≤ s.length + 1 := by rcases hinv with ⟨h1, _⟩ | ⟨h1, _⟩ <;> omega
    (repeat (first | refine AWP.seq ?_ | refine AWP.skip ?_ | refine AWP.block ?_ | refine AWP.exit ?_)); refine AWP.region hX kQS_ok rfl ?_ ?_
    · exact ⟨inR_small (by show _ ≤ (a : Int) + (s.length : Nat); omega) (by show (a : Int) + (s.length : Nat) ≤ _; omega), by show out.length + 1 ≤ 1000000000; omega⟩
    refine AWP.frz hX 4 ?_
    exact AWP.ret ⟨.inr rfl, done1 rfl trivial rfl rfl hres⟩
end Go.Proofs.YthkhgpbjfcmopaaGreatDoor
