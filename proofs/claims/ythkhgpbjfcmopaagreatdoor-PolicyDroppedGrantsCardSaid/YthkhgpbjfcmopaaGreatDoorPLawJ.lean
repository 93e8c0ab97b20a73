/-
  A policy without one of its booking grants, and with one grant more: the statement.
-/
import Derived.Test.YthkhgpbjfcmopaaGreatDoorPLawB
namespace Go.Proofs.YthkhgpbjfcmopaaGreatDoor
open Go Go.RowKit
set_option linter.unusedSimpArgs false
set_option linter.unusedVariables false
set_option maxRecDepth 100000
/-- the first k grants without the one at j, if that is for booking -/
def kp (p : List Gt) (j k : Nat) : List Gt := if j < k ∧ gA (p.getD j zG) = 2 then p.take j ++ (p.take k).drop (j + 1) else p.take k
theorem kp_length (p : List Gt) (j k : Nat) : (kp p j k).length ≤ k := by
  unfold kp
  split
  · rw [List.length_append, List.length_drop, List.length_take, List.length_take]; omega
  · rw [List.length_take]; omega
theorem kp_skip {p : List Gt} {j : Nat} (hj : j < p.length) (h : gA (p.getD j zG) = 2) : kp p j (j + 1) = kp p j j := by
  unfold kp
  rw [if_pos ⟨Nat.lt_succ_self j, h⟩, if_neg (by omega), List.drop_eq_nil_of_le (by rw [List.length_take]; omega), List.append_nil]
theorem kp_next {p : List Gt} {j k : Nat} (hk : k < p.length) (h : ¬ (k = j ∧ gA (p.getD k zG) = 2)) : kp p j (k + 1) = kp p j k ++ [p.getD k zG] := by
  have e : p.take (k + 1) = p.take k ++ [p.getD k zG] := by rw [List.take_succ_eq_append_getElem hk, List.getD_eq_getElem?_getD, List.getElem?_eq_getElem hk]; rfl
  unfold kp
  by_cases h2 : gA (p.getD j zG) = 2
  · by_cases hj : j < k
    · rw [if_pos ⟨by omega, h2⟩, if_pos ⟨hj, h2⟩, e, List.drop_append_of_le_length (by rw [List.length_take]; omega), List.append_assoc]
    · have hne : k ≠ j := fun e => h ⟨e, by rw [e]; exact h2⟩
      rw [if_neg (by omega), if_neg (by omega), e]
  · rw [if_neg (fun h => h2 h.2), if_neg (fun h => h2 h.2), e]
theorem kp_ok {p : List Gt} (hp : OkP p) (j : Nat) : OkP (kp p j p.length) ∧ allLe (kp p j p.length) p := by
  unfold kp
  split
  · rename_i h
    obtain ⟨hj, h2⟩ := h
    have e : p = p.take j ++ p.getD j zG :: p.drop (j + 1) := by
      have h1 : p.getD j zG = p[j] := by rw [List.getD_eq_getElem?_getD, List.getElem?_eq_getElem hj]; rfl
      rw [h1, ← List.drop_eq_getElem_cons hj, List.take_append_drop]
    have hm : ∀ g ∈ p.take j ++ (p.take p.length).drop (j + 1), g ∈ p := fun g hg => by
      rw [List.take_length] at hg
      rcases List.mem_append.1 hg with hg | hg
      · exact List.mem_of_mem_take hg
      · exact List.mem_of_mem_drop hg
    have hl : (p.take j ++ (p.take p.length).drop (j + 1)).length ≤ 64 := by
      have := hp.1
      rw [List.length_append, List.length_drop, List.length_take, List.length_take]; omega
    refine ⟨⟨hl, fun g hg => hp.2 g (hm g hg)⟩, ?_⟩
    have hd : OkP (p.drop (j + 1)) := ⟨by rw [List.length_drop]; have := hp.1; omega, fun g hg => hp.2 g (List.mem_of_mem_drop hg)⟩
    rw [List.take_length]
    have := allLe_drop (l := p.take j) (m := p.drop (j + 1)) (g := p.getD j zG) h2 hd
    rwa [← e] at this
  · rw [List.take_length]
    exact ⟨hp, allLe.refl p⟩
set_option maxHeartbeats 1000000 in
theorem law8_ok : CtrOk Tryz.prog pH 10 (lawCtr [.slice gr, u8, gr]) := by
  refine ctr_of_awp (K := kLf) kLf_ok Tryz.func10 rfl rfl Tryz.call10 rfl (by decide) (by intro h; cases h) ?_
  rintro w0 X hX ⟨(l : List Gt), (at' : UInt8), (g0 : Gt), _⟩ hp
  change AWP _ _ _ _ _ ⟨[(0, ⟨.slice gr, l⟩), (1, ⟨u8, at'⟩), (2, ⟨gr, g0⟩)], [], 0⟩ _
  have hl := made_ok l
  (repeat (first | refine AWP.seq ?_ | refine AWP.skip ?_ | refine AWP.block ?_ | refine AWP.exit ?_)); refine AWP.region hX kLf_ok rfl ?_ ?_
  · trivial
  (repeat (first | refine AWP.seq ?_ | refine AWP.skip ?_ | refine AWP.block ?_ | refine AWP.exit ?_)); refine AWP.region hX kLf_ok rfl ?_ ?_
  · trivial
  (repeat (first | refine AWP.seq ?_ | refine AWP.skip ?_ | refine AWP.block ?_ | refine AWP.exit ?_)); refine AWP.region hX kLf_ok rfl ?_ ?_
  · trivial
  (repeat (first | refine AWP.seq ?_ | refine AWP.skip ?_ | refine AWP.block ?_ | refine AWP.exit ?_)); refine AWP.region hX kLf_ok rfl ?_ ?_
  · trivial
  refine AWP.nilLeaf 2 0 49 gr rfl rfl rfl ?_
  (repeat (first | refine AWP.seq ?_ | refine AWP.skip ?_ | refine AWP.block ?_ | refine AWP.exit ?_)); refine AWP.region hX kLf_ok rfl ?_ ?_
  · trivial
  (repeat (first | refine AWP.seq ?_ | refine AWP.skip ?_ | refine AWP.label ?_ | refine AWP.exit ?_ | refine AWP.block ?_ | refine AWP.region hX kLf_ok rfl trivial ?_ | refine AWP.region hX kLf_ok rfl id ?_ | refine AWP.region hX kLf_ok rfl ⟨id, id⟩ ?_))
  have hl12 := made_len l
  refine AWP.fit (σ' := ⟨[(1, ⟨u8, at'⟩), (5, ⟨.optr gr, ⟨0, gr, .here⟩⟩), (7, ⟨.bool, true⟩), (8, ⟨.hptr, (1, 0)⟩), (9, ⟨.hptr, (2, 0)⟩), (10, ⟨i64, (0 : Int)⟩)], [(0, some (.box gr g0)), (1, some (.hbox [⟨.slice gr, made l⟩])), (2, some (.hbox [⟨.obuf gr, (3 : Nat)⟩])), (3, some (.buf 49 gr []))], 4⟩) ⟨⟨rfl, rfl, rfl, rfl, rfl, rfl, trivial⟩, ⟨rfl, rfl, rfl, rfl, trivial⟩, rfl, rfl⟩ ?_
  generalize made l = p at hl hl12
  obtain ⟨j, hj⟩ : ∃ j : Nat, j = at'.toNat % p.length := ⟨_, rfl⟩
  refine AWP.loop (ι := Nat) (fun k => ⟨[(1, ⟨u8, at'⟩), (5, ⟨.optr gr, ⟨0, gr, .here⟩⟩), (7, ⟨.bool, true⟩), (8, ⟨.hptr, (1, 0)⟩), (9, ⟨.hptr, (2, 0)⟩), (10, ⟨i64, (k : Int)⟩)], [(0, some (.box gr g0)), (1, some (.hbox [⟨.slice gr, p⟩])), (2, some (.hbox [⟨.obuf gr, (3 : Nat)⟩])), (3, some (.buf 49 gr (kp p j k)))], 4⟩) (fun k => k ≤ p.length) (fun k => p.length - k) 0 (by omega) ⟨⟨rfl, rfl, rfl, rfl, rfl, rfl, trivial⟩, ⟨rfl, rfl, rfl, rfl, trivial⟩, rfl, rfl⟩ ?_
  intro k hk
  (repeat (first | refine AWP.seq ?_ | refine AWP.skip ?_ | refine AWP.block ?_ | refine AWP.exit ?_)); refine AWP.region hX kLf_ok rfl ?_ ?_
  · trivial
  refine AWP.cond rfl (fun hb => ?_) (fun hb => ?_)
  · have hb : decide ((k : Int) < (p.length : Nat)) = true := hb
    have hb := of_decide_eq_true hb
    have n0 : (0 : Int) ≤ (k : Int) := by omega
    have hne : ((p.length : Nat) : Int) ≠ 0 := by omega
    have ht : ((at'.toNat : Nat) : Int).tmod ((p.length : Nat) : Int) = (j : Int) := by rw [hj]; rfl
    have hjl : j < p.length := by rw [hj]; exact Nat.mod_lt _ (by omega)
    have hkp := kp_length p j k
    (repeat (first | refine AWP.seq ?_ | refine AWP.skip ?_ | refine AWP.block ?_ | refine AWP.exit ?_)); refine AWP.region hX kLf_ok rfl ?_ ?_
    · repeat' (first | exact trivial | exact hne | exact n0 | exact hb | assumption | (refine ⟨?_, ?_⟩) | (intro _))
    refine AWP.cond rfl (fun hb => ?_) (fun hb => ?_)
    · have hc : (bif (k : Int) != ((at'.toNat : Nat) : Int).tmod ((p.length : Nat) : Int) then true else gA (p.getD (k : Int).toNat zG) != 2) = true := hb
      rw [ht] at hc
      have hc : ¬ (k = j ∧ gA (p.getD k zG) = 2) := by
        rintro ⟨rfl, h2⟩
        have h2 : gA (p.getD (k : Int).toNat zG) = 2 := h2
        rw [h2] at hc
        simp at hc
      (repeat (first | refine AWP.seq ?_ | refine AWP.skip ?_ | refine AWP.block ?_ | refine AWP.exit ?_)); refine AWP.drawN dM hX kLf_ok 8 (by kernel_rfl) rfl rfl ?_ ?_ ?_
      · repeat' (first | exact trivial | exact n0 | assumption | (refine ⟨?_, ?_⟩) | (intro _))
      · show (kp p j k).length + 1 ≤ 1000000000
        omega
      (repeat (first | refine AWP.seq ?_ | refine AWP.skip ?_ | refine AWP.block ?_ | refine AWP.exit ?_)); refine AWP.region hX kLf_ok rfl ?_ ?_
      · exact inR_succ (by omega)
      refine ⟨k + 1, by omega, by omega, ⟨rfl, rfl, rfl, rfl, rfl, vSucc _, trivial⟩, ⟨rfl, rfl, rfl, bufGr ?_, trivial⟩, rfl, rfl⟩
      show kp p j k ++ [p.getD (k : Int).toNat zG] = kp p j (k + 1)
      exact (kp_next (by omega) hc).symm
    · have hc : (bif (k : Int) != ((at'.toNat : Nat) : Int).tmod ((p.length : Nat) : Int) then true else gA (p.getD (k : Int).toNat zG) != 2) = false := hb
      rw [ht] at hc
      have hc : k = j ∧ gA (p.getD j zG) = 2 := by
        by_cases h1 : (k : Int) = j
        · have h1 : k = j := by omega
          subst h1
          have e : ((k : Int) != (k : Int)) = false := by simp
          rw [e] at hc
          have hc : (gA (p.getD k zG) != 2) = false := hc
          exact ⟨rfl, by simpa using hc⟩
        · have e : ((k : Int) != (j : Int)) = true := by simpa using h1
          rw [e] at hc
          cases hc
      obtain ⟨rfl, h2⟩ := hc
      (repeat (first | refine AWP.seq ?_ | refine AWP.skip ?_ | refine AWP.block ?_ | refine AWP.exit ?_)); refine AWP.region hX kLf_ok rfl ?_ ?_
      · exact inR_succ (by omega)
      refine ⟨k + 1, by omega, by omega, ⟨rfl, rfl, rfl, rfl, rfl, vSucc _, trivial⟩, ⟨rfl, rfl, rfl, bufGr ?_, trivial⟩, rfl, rfl⟩
      exact (kp_skip hjl h2).symm
  · have hb : decide ((k : Int) < (p.length : Nat)) = false := hb
    have hb := of_decide_eq_false hb
    have hkk : k = p.length := by omega
    subst hkk
    obtain ⟨hm, hle⟩ := kp_ok hl j
    generalize kp p j p.length = m at hm hle
    refine AWP.exit ?_
    refine AWP.frzL hX 2 0 ?_
    (repeat (first | refine AWP.seq ?_ | refine AWP.skip ?_ | refine AWP.block ?_ | refine AWP.exit ?_)); refine AWP.region hX kLf_ok rfl ?_ ?_
    · show 0 + p.length ≤ 1000000000
      omega
    (repeat (first | refine AWP.seq ?_ | refine AWP.skip ?_ | refine AWP.block ?_ | refine AWP.exit ?_)); refine AWP.region hX kLf_ok rfl ?_ ?_
    · show p.length + 1 ≤ 1000000000
      omega
    refine AWP.frz hX 11 ?_
    (repeat (first | refine AWP.seq ?_ | refine AWP.skip ?_ | refine AWP.block ?_ | refine AWP.exit ?_)); refine AWP.region hX kLf_ok rfl ?_ ?_
    · trivial
    refine AWP.fit (σ' := ⟨[(7, ⟨.bool, true⟩), (8, ⟨.hptr, (1, 0)⟩), (9, ⟨.hptr, (2, 0)⟩), (12, ⟨.hptr, (6, 0)⟩)], [(1, some (.hbox [⟨.slice gr, p⟩])), (2, some (.hbox [⟨.slice gr, m⟩])), (6, some (.hbox [⟨.slice gr, p ++ [mk1 g0]⟩]))], 7⟩) ⟨⟨rfl, rfl, rfl, rfl, trivial⟩, ⟨rfl, rfl, rfl, trivial⟩, rfl, rfl⟩ ?_
    have hmore : OkP (p ++ [mk1 g0]) := okP_app hl (made_ok [g0]) (by show p.length + 1 ≤ 64; omega)
    have e1 : pstr m p = true := (pstr_allLe m p).2 ⟨hm, hl, hle⟩
    have e2 : pstr p (p ++ [mk1 g0]) = true := (pstr_allLe _ _).2 ⟨hl, hmore, allLe_app (made_ok [g0])⟩
    (repeat (first | refine AWP.seq ?_ | refine AWP.skip ?_ | refine AWP.block ?_ | refine AWP.exit ?_)); refine AWP.region hX kLf_ok rfl ?_ ?_
    · repeat' (first | exact trivial | assumption | (refine ⟨?_, ?_⟩) | (intro _))
    refine AWP.ret ⟨.inr rfl, done1 rfl trivial rfl rfl ?_⟩
    exact bif_true (bif_true e1 e2) rfl
end Go.Proofs.YthkhgpbjfcmopaaGreatDoor
