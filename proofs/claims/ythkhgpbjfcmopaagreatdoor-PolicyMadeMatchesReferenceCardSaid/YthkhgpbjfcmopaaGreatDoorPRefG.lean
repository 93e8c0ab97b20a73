/-
  The reference of chapter 25: Parse.
-/
import Derived.Test.YthkhgpbjfcmopaaGreatDoorPRefF
namespace Go.Proofs.YthkhgpbjfcmopaaGreatDoor
open Go Go.RowKit
set_option linter.unusedSimpArgs false
set_option linter.unusedVariables false
set_option maxRecDepth 100000
theorem flush_le (c : List UInt8) (a : Int) (l : List Wd) : (flush c a l).length ≤ l.length + 1 := by unfold flush; split <;> simp
theorem fin_mem {L : List Wd} {i : Nat} {m : List Wd} (h : m ∈ fin L i) : LW m ∧ m.length ≤ L.length + 1 := by
  unfold fin at h
  split at h
  · cases h
  · rw [List.mem_singleton] at h
    subst h
    refine ⟨⟨by simp, ?_⟩, by simp⟩
    rw [List.length_append, List.length_singleton, Nat.add_sub_cancel, List.getD_eq_getElem?_getD, List.getElem?_append_right (Nat.le_refl _), Nat.sub_self]
    rfl
theorem lnF_mem {m : List Wd} : ∀ (r : List UInt8) (i : Nat) (c : List UInt8) (line : List Wd), m ∈ lnF r i c line → LW m ∧ m.length ≤ line.length + r.length + 2
  | [], i, c, line, h => by
    have h1 := fin_mem (show m ∈ fin (flush c ((i - c.length : Nat) : Int) line) i from h)
    have h2 := flush_le c ((i - c.length : Nat) : Int) line
    exact ⟨h1.1, by have := h1.2; simp only [List.length_nil]; omega⟩
  | x :: r, i, c, line, h => by
    have h2 := flush_le c ((i - c.length : Nat) : Int) line
    unfold lnF at h
    split at h
    · have h1 := lnF_mem r _ _ _ h
      exact ⟨h1.1, by have := h1.2; simp only [List.length_cons]; omega⟩
    · split at h
      · rcases List.mem_append.1 h with h | h
        · have h1 := fin_mem h
          exact ⟨h1.1, by have := h1.2; simp only [List.length_cons]; omega⟩
        · have h1 := lnF_mem r _ _ _ h
          exact ⟨h1.1, by have := h1.2; simp only [List.length_nil] at this; simp only [List.length_cons]; omega⟩
      · have h1 := lnF_mem r _ _ _ h
        exact ⟨h1.1, by have := h1.2; simp only [List.length_cons]; omega⟩
/-- the grants of lines, behind k that were read -/
def pF : List (List Wd) → Nat → List Gt → List Gt × Int × Int
  | [], _, acc => (acc, 0, 0)
  | l :: r, k, acc => if k = 64 then ([], wA (l.getD 0 zW), 2) else if rE (grantS (l, 0, 0, 0, ())).2 ≠ 0 then ([], rA (grantS (l, 0, 0, 0, ())).2, rE (grantS (l, 0, 0, 0, ())).2) else pF r (k + 1) (acc ++ [(grantS (l, 0, 0, 0, ())).1])
def parseS (s : List UInt8) : List Gt × Int × Int := if 4000 < s.length then ([], 0, 2) else pF (linesS s) 0 []
def cRParse : Ctr := { args := [.str], pre := fun _ => [], res := .tup po (.tup i64 (.tup i64 .unit)), own := none, out := fun x => (((parseS x.1).1, ()), (parseS x.1).2.1, (parseS x.1).2.2, ()) }
def kPN : Kn := { pK with C := [(66, cLines)], R := [(67, cGrant)], H := [24] }
theorem kPN_ok : KnOk Tryz.prog pG kPN := ⟨pT_ok, pU_ok, .cons rlines_ok .nil, pK_ok.st, .cons rgrant_ok (fun _ _ => trivial) .nil⟩
theorem vLns {x y : List (List Wd)} (h : x = y) : (⟨.slice (.slice wd), x⟩ : V) = ⟨.slice (.slice wd), y⟩ := by rw [h]
set_option maxHeartbeats 4000000 in
theorem rparse_ok : CtrOk Tryz.prog pG 31 cRParse := by
  refine ctr_of_awp (K := kPN) kPN_ok Tryz.func31 rfl rfl Tryz.call31 rfl (by decide) (by intro h; cases h) ?_
  rintro w0 X hX ⟨(s : List UInt8), _⟩ hp
  change AWP _ _ _ _ _ ⟨[(0, ⟨.str, s⟩)], [], 0⟩ _
  (repeat (first | refine AWP.seq ?_ | refine AWP.skip ?_ | refine AWP.label ?_ | refine AWP.exit ?_ | refine AWP.block ?_ | refine AWP.region hX kPN_ok rfl trivial ?_ | refine AWP.region hX kPN_ok rfl id ?_ | refine AWP.region hX kPN_ok rfl ⟨id, id⟩ ?_))
  refine AWP.cond rfl (fun hb => ?_) (fun hb => ?_)
  · have hb : decide (((s.length : Nat) : Int) > 4000) = true := hb
    have hb := of_decide_eq_true hb
    have hP : parseS s = ([], 0, 2) := if_pos (by omega)
    (repeat (first | refine AWP.seq ?_ | refine AWP.skip ?_ | refine AWP.label ?_ | refine AWP.exit ?_ | refine AWP.block ?_ | refine AWP.region hX kPN_ok rfl trivial ?_ | refine AWP.region hX kPN_ok rfl id ?_ | refine AWP.region hX kPN_ok rfl ⟨id, id⟩ ?_))
    refine AWP.ret ⟨.inr rfl, done2 (by decide) rfl rfl trivial ?_⟩
    show (([], ()), 0, 2, ()) = (((parseS s).1, ()), (parseS s).2.1, (parseS s).2.2, ())
    rw [hP]
  have hb : decide (((s.length : Nat) : Int) > 4000) = false := hb
  have hb := of_decide_eq_false hb
  have hP : parseS s = pF (linesS s) 0 [] := if_neg (by omega)
  (repeat (first | refine AWP.seq ?_ | refine AWP.skip ?_ | refine AWP.block ?_ | refine AWP.exit ?_)); refine AWP.region hX kPN_ok rfl ?_ ?_
  · show s.length ≤ 100000
    omega
  (repeat (first | refine AWP.seq ?_ | refine AWP.skip ?_ | refine AWP.label ?_ | refine AWP.exit ?_ | refine AWP.block ?_ | refine AWP.region hX kPN_ok rfl trivial ?_ | refine AWP.region hX kPN_ok rfl id ?_ | refine AWP.region hX kPN_ok rfl ⟨id, id⟩ ?_))
  refine AWP.nilLeaf 1 0 49 gr rfl rfl rfl ?_
  have hmem : ∀ m ∈ linesS s, LW m ∧ m.length ≤ 10000 := fun m hm => by
    have := lnF_mem s 0 [] [] hm
    refine ⟨this.1, ?_⟩
    have := this.2
    simp only [List.length_nil] at this
    omega
  generalize hL : linesS s = L at hP hmem
  refine AWP.loop (ι := Nat × List Gt) (fun t => ⟨[(2, ⟨.hptr, (0, 0)⟩), (5, ⟨.slice (.slice wd), L⟩), (6, ⟨.hptr, (1, 0)⟩), (7, ⟨i64, (t.1 : Int)⟩)], [(0, some (.hbox [⟨.lit, .slice none 0 0⟩])), (1, some (.hbox [⟨.obuf gr, (2 : Nat)⟩])), (2, some (.buf 49 gr t.2))], 3⟩) (fun t => t.1 ≤ 64 ∧ t.1 ≤ L.length ∧ t.2.length ≤ t.1 ∧ pF (L.drop t.1) t.1 t.2 = parseS s) (fun t => L.length - t.1) (0, []) ⟨by omega, by omega, by simp, hP.symm⟩ ⟨⟨rfl, vLns hL, rfl, rfl, trivial⟩, ⟨rfl, rfl, rfl, trivial⟩, rfl, rfl⟩ ?_
  rintro ⟨k, acc⟩ ⟨hk64, hk, hacc, hinv⟩
  have hk64 : k ≤ 64 := hk64
  have hk : k ≤ L.length := hk
  have hacc : acc.length ≤ k := hacc
  have hinv : pF (L.drop k) k acc = parseS s := hinv
  (repeat (first | refine AWP.seq ?_ | refine AWP.skip ?_ | refine AWP.block ?_ | refine AWP.exit ?_)); refine AWP.region hX kPN_ok rfl ?_ ?_
  · trivial
  refine AWP.cond rfl (fun hb => ?_) (fun hb => ?_)
  · have hb : decide ((k : Int) < (L.length : Nat)) = true := hb
    have hb := of_decide_eq_true hb
    have hlt : k < L.length := by omega
    have n0 : (0 : Int) ≤ (k : Int) := by omega
    have hd : L.drop k = L[k] :: L.drop (k + 1) := List.drop_eq_getElem_cons hlt
    have hm := hmem _ (List.getElem_mem hlt)
    have hG : L.getD (k : Int).toNat [] = L[k] := getD_at hlt
    rw [hd] at hinv
    generalize L[k] = l at hinv hm hG
    unfold pF at hinv
    (repeat (first | refine AWP.seq ?_ | refine AWP.skip ?_ | refine AWP.label ?_ | refine AWP.exit ?_ | refine AWP.block ?_ | refine AWP.region hX kPN_ok rfl trivial ?_ | refine AWP.region hX kPN_ok rfl id ?_ | refine AWP.region hX kPN_ok rfl ⟨id, id⟩ ?_))
    refine AWP.cond rfl (fun hb => ?_) (fun hb => ?_)
    · have hq : decide ((k : Int) = 64) = true := hb
      have hq := of_decide_eq_true hq
      rw [if_pos (by omega)] at hinv
      have hl0 : (0 : Int) < ((L.getD (k : Int).toNat []).length : Nat) := by rw [hG]; have := hm.1.1; omega
      have cs : allP [(0 : Int) ≤ (k : Int), (k : Int) < ((L.length : Nat) : Int), (0 : Int) ≤ 0, (0 : Int) < ((L.getD (k : Int).toNat []).length : Nat)] := ⟨n0, (by omega : (k : Int) < ((L.length : Nat) : Int)), Int.le_refl _, hl0⟩
      (repeat (first | refine AWP.seq ?_ | refine AWP.skip ?_ | refine AWP.block ?_ | refine AWP.exit ?_)); refine AWP.orders (σ' := ⟨[(2, ⟨.hptr, (0, 0)⟩), (3, ⟨i64, wA (l.getD 0 zW)⟩), (4, ⟨i64, (2 : Int)⟩)], [(0, some (.hbox [⟨.lit, .slice none 0 0⟩]))], 3⟩) dM hX kPN_ok 11 rfl (by kernel_rfl) [[0, 1, 2, 3, 4, 5, 6, 7, 8, 9, 10], [0, 1, 2, 3, 4, 5, 6, 8, 7, 9, 10], [0, 1, 2, 3, 4, 5, 8, 6, 7, 9, 10], [0, 1, 2, 3, 4, 8, 5, 6, 7, 9, 10], [0, 1, 2, 3, 8, 4, 5, 6, 7, 9, 10], [0, 1, 2, 8, 3, 4, 5, 6, 7, 9, 10], [0, 1, 8, 2, 3, 4, 5, 6, 7, 9, 10], [0, 2, 1, 3, 4, 5, 6, 7, 8, 9, 10], [0, 2, 1, 3, 4, 5, 6, 8, 7, 9, 10], [0, 2, 1, 3, 4, 5, 8, 6, 7, 9, 10], [0, 2, 1, 3, 4, 8, 5, 6, 7, 9, 10], [0, 2, 1, 3, 8, 4, 5, 6, 7, 9, 10], [0, 2, 1, 8, 3, 4, 5, 6, 7, 9, 10], [0, 2, 8, 1, 3, 4, 5, 6, 7, 9, 10], [0, 8, 1, 2, 3, 4, 5, 6, 7, 9, 10], [0, 8, 2, 1, 3, 4, 5, 6, 7, 9, 10], [1, 0, 2, 3, 4, 5, 6, 7, 8, 9, 10], [1, 0, 2, 3, 4, 5, 6, 8, 7, 9, 10], [1, 0, 2, 3, 4, 5, 8, 6, 7, 9, 10], [1, 0, 2, 3, 4, 8, 5, 6, 7, 9, 10], [1, 0, 2, 3, 8, 4, 5, 6, 7, 9, 10], [1, 0, 2, 8, 3, 4, 5, 6, 7, 9, 10], [1, 0, 8, 2, 3, 4, 5, 6, 7, 9, 10], [1, 2, 0, 3, 4, 5, 6, 7, 8, 9, 10], [1, 2, 0, 3, 4, 5, 6, 8, 7, 9, 10], [1, 2, 0, 3, 4, 5, 8, 6, 7, 9, 10], [1, 2, 0, 3, 4, 8, 5, 6, 7, 9, 10], [1, 2, 0, 3, 8, 4, 5, 6, 7, 9, 10], [1, 2, 0, 8, 3, 4, 5, 6, 7, 9, 10], [1, 2, 3, 0, 4, 5, 6, 7, 8, 9, 10], [1, 2, 3, 0, 4, 5, 6, 8, 7, 9, 10], [1, 2, 3, 0, 4, 5, 8, 6, 7, 9, 10], [1, 2, 3, 0, 4, 8, 5, 6, 7, 9, 10], [1, 2, 3, 0, 8, 4, 5, 6, 7, 9, 10], [1, 2, 3, 4, 0, 5, 6, 7, 8, 9, 10], [1, 2, 3, 4, 0, 5, 6, 8, 7, 9, 10], [1, 2, 3, 4, 0, 5, 8, 6, 7, 9, 10], [1, 2, 3, 4, 0, 8, 5, 6, 7, 9, 10], [1, 2, 3, 4, 5, 0, 6, 7, 8, 9, 10], [1, 2, 3, 4, 5, 0, 6, 8, 7, 9, 10], [1, 2, 3, 4, 5, 0, 8, 6, 7, 9, 10], [1, 2, 3, 4, 5, 6, 0, 7, 8, 9, 10], [1, 2, 3, 4, 5, 6, 0, 8, 7, 9, 10], [1, 2, 3, 4, 5, 6, 7, 0, 8, 9, 10], [2, 0, 1, 3, 4, 5, 6, 7, 8, 9, 10], [2, 0, 1, 3, 4, 5, 6, 8, 7, 9, 10], [2, 0, 1, 3, 4, 5, 8, 6, 7, 9, 10], [2, 0, 1, 3, 4, 8, 5, 6, 7, 9, 10], [2, 0, 1, 3, 8, 4, 5, 6, 7, 9, 10], [2, 0, 1, 8, 3, 4, 5, 6, 7, 9, 10], [2, 0, 8, 1, 3, 4, 5, 6, 7, 9, 10], [2, 1, 0, 3, 4, 5, 6, 7, 8, 9, 10], [2, 1, 0, 3, 4, 5, 6, 8, 7, 9, 10], [2, 1, 0, 3, 4, 5, 8, 6, 7, 9, 10], [2, 1, 0, 3, 4, 8, 5, 6, 7, 9, 10], [2, 1, 0, 3, 8, 4, 5, 6, 7, 9, 10], [2, 1, 0, 8, 3, 4, 5, 6, 7, 9, 10], [2, 1, 3, 0, 4, 5, 6, 7, 8, 9, 10], [2, 1, 3, 0, 4, 5, 6, 8, 7, 9, 10], [2, 1, 3, 0, 4, 5, 8, 6, 7, 9, 10], [2, 1, 3, 0, 4, 8, 5, 6, 7, 9, 10], [2, 1, 3, 0, 8, 4, 5, 6, 7, 9, 10], [2, 1, 3, 4, 0, 5, 6, 7, 8, 9, 10], [2, 1, 3, 4, 0, 5, 6, 8, 7, 9, 10], [2, 1, 3, 4, 0, 5, 8, 6, 7, 9, 10], [2, 1, 3, 4, 0, 8, 5, 6, 7, 9, 10], [2, 1, 3, 4, 5, 0, 6, 7, 8, 9, 10], [2, 1, 3, 4, 5, 0, 6, 8, 7, 9, 10], [2, 1, 3, 4, 5, 0, 8, 6, 7, 9, 10], [2, 1, 3, 4, 5, 6, 0, 7, 8, 9, 10], [2, 1, 3, 4, 5, 6, 0, 8, 7, 9, 10], [2, 1, 3, 4, 5, 6, 7, 0, 8, 9, 10]] (by kernel_rfl) ?_ ?_
      · repeat' (first | exact AllL.nil | exact cs | refine AllL.cons (LinOk.mk rfl ?_ ⟨⟨rfl, vI64 (congrArg (fun z : List Wd => wA (z.getD 0 zW)) hG), rfl, trivial⟩, ⟨rfl, trivial⟩, rfl, rfl⟩) ?_)
      refine AWP.ret ⟨.inr rfl, done2 (by decide) rfl rfl trivial ?_⟩
      show (([], ()), wA (l.getD 0 zW), 2, ()) = (((parseS s).1, ()), (parseS s).2.1, (parseS s).2.2, ())
      rw [← hinv]
    have hq : decide ((k : Int) = 64) = false := hb
    have hq := of_decide_eq_false hq
    rw [if_neg (by omega)] at hinv
    (repeat (first | refine AWP.seq ?_ | refine AWP.skip ?_ | refine AWP.block ?_ | refine AWP.exit ?_)); refine AWP.region hX kPN_ok rfl ?_ ?_
    · exact ⟨n0, by assumption⟩
    have hgl : rL (l, 0, 0, 0, ()) = l := rfl
    refine AWP.fit (σ' := ⟨[(2, ⟨.hptr, (0, 0)⟩), (5, ⟨.slice (.slice wd), L⟩), (6, ⟨.hptr, (1, 0)⟩), (7, ⟨i64, (k : Int)⟩), (8, ⟨.optr rr, ⟨3, rr, .here⟩⟩)], [(0, some (.hbox [⟨.lit, .slice none 0 0⟩])), (1, some (.hbox [⟨.obuf gr, (2 : Nat)⟩])), (2, some (.buf 49 gr acc)), (3, some (.box rr (l, 0, 0, 0, ())))], 4⟩) ⟨⟨rfl, rfl, rfl, rfl, rfl, trivial⟩, ⟨rfl, rfl, rfl, boxRd (congrArg (fun z : List Wd => ((z, 0, 0, 0, ()) : Rd)) hG), trivial⟩, rfl, rfl⟩ ?_
    (repeat (first | refine AWP.seq ?_ | refine AWP.skip ?_ | refine AWP.block ?_ | refine AWP.exit ?_)); refine AWP.region hX kPN_ok rfl ?_ ?_
    · exact ⟨.inr ⟨Int.le_refl _, by show (0 : Int) < (l.length : Nat); have := hm.1.1; omega⟩, hm.1, hm.2⟩
    generalize hS : grantS (l, 0, 0, 0, ()) = S at hinv
    obtain ⟨g, r⟩ := S
    obtain ⟨(rl : List Wd), (ri : Int), (ra : Int), (re : Int), _⟩ := r
    refine AWP.fit (σ' := ⟨[(2, ⟨.hptr, (0, 0)⟩), (5, ⟨.slice (.slice wd), L⟩), (6, ⟨.hptr, (1, 0)⟩), (7, ⟨i64, (k : Int)⟩), (8, ⟨.optr rr, ⟨3, rr, .here⟩⟩), (9, ⟨.optr gr, ⟨4, gr, .here⟩⟩)], [(0, some (.hbox [⟨.lit, .slice none 0 0⟩])), (1, some (.hbox [⟨.obuf gr, (2 : Nat)⟩])), (2, some (.buf 49 gr acc)), (3, some (.box rr (rl, ri, ra, re, ()))), (4, some (.box gr g))], 5⟩) ⟨⟨rfl, rfl, rfl, rfl, rfl, rfl, trivial⟩, ⟨rfl, rfl, rfl, boxRd (congrArg (fun z => z.2) hS), boxGr (congrArg (fun z => z.1) hS), trivial⟩, rfl, rfl⟩ ?_
    have hinv : (if re ≠ 0 then (([], ra, re) : List Gt × Int × Int) else pF (L.drop (k + 1)) (k + 1) (acc ++ [g])) = parseS s := hinv
    (repeat (first | refine AWP.seq ?_ | refine AWP.skip ?_ | refine AWP.label ?_ | refine AWP.exit ?_ | refine AWP.block ?_ | refine AWP.region hX kPN_ok rfl trivial ?_ | refine AWP.region hX kPN_ok rfl id ?_ | refine AWP.region hX kPN_ok rfl ⟨id, id⟩ ?_))
    refine AWP.cond rfl (fun hb => ?_) (fun hb => ?_)
    · have hq : (!decide (re = 0)) = true := hb
      simp at hq
      rw [if_pos hq] at hinv
      (repeat (first | refine AWP.seq ?_ | refine AWP.skip ?_ | refine AWP.block ?_ | refine AWP.exit ?_)); refine AWP.orders (σ' := ⟨[(2, ⟨.hptr, (0, 0)⟩), (3, ⟨i64, ra⟩), (4, ⟨i64, re⟩)], [(0, some (.hbox [⟨.lit, .slice none 0 0⟩]))], 3⟩) dM hX kPN_ok 8 rfl (by kernel_rfl) [[0, 1, 2, 3, 4, 5, 6, 7], [0, 1, 2, 3, 5, 4, 6, 7], [0, 1, 2, 3, 5, 6, 4, 7], [0, 1, 2, 5, 3, 4, 6, 7], [0, 1, 2, 5, 3, 6, 4, 7], [0, 1, 2, 5, 6, 3, 4, 7], [0, 1, 3, 2, 4, 5, 6, 7], [0, 1, 3, 2, 5, 4, 6, 7], [0, 1, 3, 2, 5, 6, 4, 7], [0, 1, 3, 4, 2, 5, 6, 7], [0, 1, 3, 4, 5, 2, 6, 7], [0, 1, 3, 5, 2, 4, 6, 7], [0, 1, 3, 5, 2, 6, 4, 7], [0, 1, 3, 5, 4, 2, 6, 7], [0, 1, 5, 2, 3, 4, 6, 7], [0, 1, 5, 2, 3, 6, 4, 7], [0, 1, 5, 2, 6, 3, 4, 7], [0, 1, 5, 3, 2, 4, 6, 7], [0, 1, 5, 3, 2, 6, 4, 7], [0, 1, 5, 3, 4, 2, 6, 7], [0, 3, 1, 2, 4, 5, 6, 7], [0, 3, 1, 2, 5, 4, 6, 7], [0, 3, 1, 2, 5, 6, 4, 7], [0, 3, 1, 4, 2, 5, 6, 7], [0, 3, 1, 4, 5, 2, 6, 7], [0, 3, 1, 5, 2, 4, 6, 7], [0, 3, 1, 5, 2, 6, 4, 7], [0, 3, 1, 5, 4, 2, 6, 7], [0, 3, 4, 1, 2, 5, 6, 7], [0, 3, 4, 1, 5, 2, 6, 7], [0, 3, 4, 5, 1, 2, 6, 7], [0, 3, 5, 1, 2, 4, 6, 7], [0, 3, 5, 1, 2, 6, 4, 7], [0, 3, 5, 1, 4, 2, 6, 7], [0, 3, 5, 4, 1, 2, 6, 7], [0, 5, 1, 2, 3, 4, 6, 7], [0, 5, 1, 2, 3, 6, 4, 7], [0, 5, 1, 2, 6, 3, 4, 7], [0, 5, 1, 3, 2, 4, 6, 7], [0, 5, 1, 3, 2, 6, 4, 7], [0, 5, 1, 3, 4, 2, 6, 7], [0, 5, 3, 1, 2, 4, 6, 7], [0, 5, 3, 1, 2, 6, 4, 7], [0, 5, 3, 1, 4, 2, 6, 7], [0, 5, 3, 4, 1, 2, 6, 7], [1, 0, 2, 3, 4, 5, 6, 7], [1, 0, 2, 3, 5, 4, 6, 7], [1, 0, 2, 3, 5, 6, 4, 7], [1, 0, 2, 5, 3, 4, 6, 7], [1, 0, 2, 5, 3, 6, 4, 7], [1, 0, 2, 5, 6, 3, 4, 7], [1, 0, 3, 2, 4, 5, 6, 7], [1, 0, 3, 2, 5, 4, 6, 7], [1, 0, 3, 2, 5, 6, 4, 7], [1, 0, 3, 4, 2, 5, 6, 7], [1, 0, 3, 4, 5, 2, 6, 7], [1, 0, 3, 5, 2, 4, 6, 7], [1, 0, 3, 5, 2, 6, 4, 7], [1, 0, 3, 5, 4, 2, 6, 7], [1, 0, 5, 2, 3, 4, 6, 7], [1, 0, 5, 2, 3, 6, 4, 7], [1, 0, 5, 2, 6, 3, 4, 7], [1, 0, 5, 3, 2, 4, 6, 7], [1, 0, 5, 3, 2, 6, 4, 7], [1, 0, 5, 3, 4, 2, 6, 7], [1, 2, 0, 3, 4, 5, 6, 7], [1, 2, 0, 3, 5, 4, 6, 7], [1, 2, 0, 3, 5, 6, 4, 7], [1, 2, 0, 5, 3, 4, 6, 7], [1, 2, 0, 5, 3, 6, 4, 7], [1, 2, 0, 5, 6, 3, 4, 7], [1, 2, 3, 0, 4, 5, 6, 7], [1, 2, 3, 0, 5, 4, 6, 7], [1, 2, 3, 0, 5, 6, 4, 7], [1, 2, 3, 4, 0, 5, 6, 7], [1, 3, 0, 2, 4, 5, 6, 7], [1, 3, 0, 2, 5, 4, 6, 7], [1, 3, 0, 2, 5, 6, 4, 7], [1, 3, 0, 4, 2, 5, 6, 7], [1, 3, 0, 4, 5, 2, 6, 7], [1, 3, 0, 5, 2, 4, 6, 7], [1, 3, 0, 5, 2, 6, 4, 7], [1, 3, 0, 5, 4, 2, 6, 7], [1, 3, 2, 0, 4, 5, 6, 7], [1, 3, 2, 0, 5, 4, 6, 7], [1, 3, 2, 0, 5, 6, 4, 7], [1, 3, 2, 4, 0, 5, 6, 7], [1, 3, 4, 0, 2, 5, 6, 7], [1, 3, 4, 0, 5, 2, 6, 7], [1, 3, 4, 2, 0, 5, 6, 7], [3, 0, 1, 2, 4, 5, 6, 7], [3, 0, 1, 2, 5, 4, 6, 7], [3, 0, 1, 2, 5, 6, 4, 7], [3, 0, 1, 4, 2, 5, 6, 7], [3, 0, 1, 4, 5, 2, 6, 7], [3, 0, 1, 5, 2, 4, 6, 7], [3, 0, 1, 5, 2, 6, 4, 7], [3, 0, 1, 5, 4, 2, 6, 7], [3, 0, 4, 1, 2, 5, 6, 7], [3, 0, 4, 1, 5, 2, 6, 7], [3, 0, 4, 5, 1, 2, 6, 7], [3, 0, 5, 1, 2, 4, 6, 7], [3, 0, 5, 1, 2, 6, 4, 7], [3, 0, 5, 1, 4, 2, 6, 7], [3, 0, 5, 4, 1, 2, 6, 7], [3, 1, 0, 2, 4, 5, 6, 7], [3, 1, 0, 2, 5, 4, 6, 7], [3, 1, 0, 2, 5, 6, 4, 7], [3, 1, 0, 4, 2, 5, 6, 7], [3, 1, 0, 4, 5, 2, 6, 7], [3, 1, 0, 5, 2, 4, 6, 7], [3, 1, 0, 5, 2, 6, 4, 7], [3, 1, 0, 5, 4, 2, 6, 7], [3, 1, 2, 0, 4, 5, 6, 7], [3, 1, 2, 0, 5, 4, 6, 7], [3, 1, 2, 0, 5, 6, 4, 7], [3, 1, 2, 4, 0, 5, 6, 7], [3, 1, 4, 0, 2, 5, 6, 7], [3, 1, 4, 0, 5, 2, 6, 7], [3, 1, 4, 2, 0, 5, 6, 7], [3, 4, 0, 1, 2, 5, 6, 7], [3, 4, 0, 1, 5, 2, 6, 7], [3, 4, 0, 5, 1, 2, 6, 7], [3, 4, 1, 0, 2, 5, 6, 7], [3, 4, 1, 0, 5, 2, 6, 7], [3, 4, 1, 2, 0, 5, 6, 7]] (by kernel_rfl) ?_ ?_
      · repeat' (first | exact AllL.nil | exact trivial | refine AllL.cons (LinOk.mk rfl ?_ ⟨⟨rfl, rfl, rfl, trivial⟩, ⟨rfl, trivial⟩, rfl, rfl⟩) ?_)
      refine AWP.ret ⟨.inr rfl, done2 (by decide) rfl rfl trivial ?_⟩
      show (([], ()), ra, re, ()) = (((parseS s).1, ()), (parseS s).2.1, (parseS s).2.2, ())
      rw [← hinv]
    · have hq : (!decide (re = 0)) = false := hb
      simp at hq
      rw [if_neg (fun h => h hq)] at hinv
      (repeat (first | refine AWP.seq ?_ | refine AWP.skip ?_ | refine AWP.block ?_ | refine AWP.exit ?_)); refine AWP.region hX kPN_ok rfl ?_ ?_
      · show acc.length + 1 ≤ 1000000000
        omega
      (repeat (first | refine AWP.seq ?_ | refine AWP.skip ?_ | refine AWP.block ?_ | refine AWP.exit ?_)); refine AWP.region hX kPN_ok rfl ?_ ?_
      · exact inR_succ (by omega)
      exact ⟨(k + 1, acc ++ [g]), ⟨by show k + 1 ≤ 64; omega, by show k + 1 ≤ L.length; omega, by show (acc ++ [g]).length ≤ k + 1; rw [List.length_append, List.length_singleton]; omega, hinv⟩, by show L.length - (k + 1) < L.length - k; omega, ⟨rfl, rfl, rfl, vSucc _, trivial⟩, ⟨rfl, rfl, rfl, trivial⟩, rfl, rfl⟩
  · have hb : decide ((k : Int) < (L.length : Nat)) = false := hb
    have hb := of_decide_eq_false hb
    have : k = L.length := by omega
    subst this
    rw [List.drop_length] at hinv
    unfold pF at hinv
    refine AWP.frzL hX 1 0 ?_
    (repeat (first | refine AWP.seq ?_ | refine AWP.skip ?_ | refine AWP.label ?_ | refine AWP.exit ?_ | refine AWP.block ?_ | refine AWP.region hX kPN_ok rfl trivial ?_ | refine AWP.region hX kPN_ok rfl id ?_ | refine AWP.region hX kPN_ok rfl ⟨id, id⟩ ?_))
    refine AWP.ret ⟨.inr rfl, done2 (by decide) rfl rfl trivial ?_⟩
    show ((acc, ()), 0, 0, ()) = (((parseS s).1, ()), (parseS s).2.1, (parseS s).2.2, ())
    rw [← hinv]
end Go.Proofs.YthkhgpbjfcmopaaGreatDoor
