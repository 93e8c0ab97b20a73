/-
  The statements of chapter 03: the laws answer true (first part).
-/
import Derived.Test.YtpepbnieocdpbaaDoorDLawA
import Derived.Test.YtpepbnieocdpbaaDoorAbsArgs
namespace Go.Proofs.YtpepbnieocdpbaaDoor
open Go Go.RowKit
set_option linter.unusedSimpArgs false
set_option linter.unusedVariables false
set_option maxRecDepth 100000
def kW : Kn := { dK with C := (12, cSanity) :: (14, cFew) :: (13, cShort) :: cL }
theorem kW_ok : KnOk Tryd.prog dG kW := dK_ok.with (.cons sanity_ok (.cons few_ok (.cons short_ok cL_ok)))
theorem few_enc (l : List (List UInt8)) : (encoding ((l.take 8).map (List.take 100))).length ≤ 864 := by
  have key : ∀ (k : Nat) (m : List (List UInt8)), m.length ≤ k → (encoding (m.map (List.take 100))).length ≤ 108 * k := by
    intro k
    induction k with
    | zero => intro m hm; have : m = [] := List.eq_nil_of_length_eq_zero (by omega); subst this; simp [encoding]
    | succ k ih =>
      intro m hm
      cases m with
      | nil => simp [encoding]
      | cons b m =>
        have := ih m (by simpa using hm)
        have e : encoding ((b :: m).map (List.take 100)) = le64 (b.take 100).length ++ b.take 100 ++ encoding (m.map (List.take 100)) := rfl
        rw [e]
        simp only [List.length_append, le64, List.length_map, List.length_range, List.length_take]
        omega
  exact key 8 _ (by rw [List.length_take]; omega)
theorem bif_true {a b : Bool} (ha : a = true) (hb : b = true) : (bif a then b else false) = true := by subst ha; subst hb; rfl
theorem take_le (l : List UInt8) (n : Nat) : (l.take n).length ≤ n := List.length_take_le _ _
theorem law1_ok : CtrOk Tryd.prog dG 3 (lawCtr [bs, dg, .slice bs]) := by
  refine ctr_of_awp (K := kW) kW_ok Tryd.func3 rfl rfl Tryd.call3 rfl (by decide) (by intro h; cases h) ?_
  rintro w0 X hX ⟨(b : List UInt8), (key : List UInt8), (l : List (List UInt8)), _⟩ hp
  change AWP _ _ _ _ _ ⟨[(0, ⟨bs, b⟩), (1, ⟨dg, key⟩), (2, ⟨.slice bs, l⟩)], [], 0⟩ _
  (repeat (first | refine AWP.seq ?_ | refine AWP.skip ?_ | refine AWP.block ?_ | refine AWP.exit ?_)); refine AWP.region hX kW_ok rfl ?_ ?_
  · trivial
  (repeat (first | refine AWP.seq ?_ | refine AWP.skip ?_ | refine AWP.block ?_ | refine AWP.exit ?_)); refine AWP.region hX kW_ok rfl ?_ ?_
  · trivial
  (repeat (first | refine AWP.seq ?_ | refine AWP.skip ?_ | refine AWP.block ?_ | refine AWP.exit ?_)); refine AWP.region hX kW_ok rfl ?_ ?_
  · exact ⟨by show (0 : Int) ≤ 400; omega, by show (400 : Int) ≤ 1000000; omega⟩
  refine AWP.frz hX 9 ?_
  have h1 := take_le b 400
  have h2 := few_enc l
  have q1 : (b.take 400).length ≤ 2000000 := by omega
  have q2 : (b.take 400).length ≤ 1000000 := by omega
  have q3 : (b.take 400).length ≤ 900000 := by omega
  have q4 : (encoding ((l.take 8).map (List.take 100))).length ≤ 2000000 := by omega
  (repeat (first | refine AWP.seq ?_ | refine AWP.skip ?_ | refine AWP.block ?_ | refine AWP.exit ?_)); refine AWP.draw dM hX kW_ok 32 (by kernel_rfl) rfl rfl ?_ ?_ ?_
  · repeat' (first | exact trivial | assumption | exact q1 | exact q2 | exact q3 | exact q4 | (refine ⟨?_, ?_⟩) | (intro _) | exact Nat.le_of_ble_eq_true rfl)
  · trivial
  refine AWP.ret ⟨.inr rfl, done1 rfl trivial rfl rfl ?_⟩
  exact bif_true (bif_true (bif_true (bif_true (eqb_self _) (eqb_self _)) (eqb_self _)) (eqb_self _)) rfl
theorem law2_ok : CtrOk Tryd.prog dG 4 (lawCtr [.str]) := by
  refine ctr_of_awp (K := kW) kW_ok Tryd.func4 rfl rfl Tryd.call4 rfl (by decide) (by intro h; cases h) ?_
  rintro w0 X hX ⟨(s : List UInt8), _⟩ hp
  change AWP _ _ _ _ _ ⟨[(0, ⟨.str, s⟩)], [], 0⟩ _
  (repeat (first | refine AWP.seq ?_ | refine AWP.skip ?_ | refine AWP.block ?_ | refine AWP.exit ?_)); refine AWP.region hX kW_ok rfl ?_ ?_
  · trivial
  (repeat (first | refine AWP.seq ?_ | refine AWP.skip ?_ | refine AWP.block ?_ | refine AWP.exit ?_)); refine AWP.region hX kW_ok rfl ?_ ?_
  · trivial
  (repeat (first | refine AWP.seq ?_ | refine AWP.skip ?_ | refine AWP.block ?_ | refine AWP.exit ?_)); refine AWP.region hX kW_ok rfl ?_ ?_
  · exact ⟨by show (0 : Int) ≤ min (s.length : Int) 200; omega, by show min (s.length : Int) 200 ≤ (s.length : Int); omega⟩
  (repeat (first | refine AWP.seq ?_ | refine AWP.skip ?_ | refine AWP.label ?_ | refine AWP.exit ?_ | refine AWP.block ?_ | refine AWP.region hX kW_ok rfl trivial ?_ | refine AWP.region hX kW_ok rfl id ?_ | refine AWP.region hX kW_ok rfl ⟨id, id⟩ ?_))
  (repeat (first | refine AWP.seq ?_ | refine AWP.skip ?_ | refine AWP.block ?_ | refine AWP.exit ?_)); refine AWP.region hX kW_ok rfl ?_ ?_
  · repeat' (first | exact trivial | assumption | (refine ⟨?_, ?_⟩) | (intro _) | exact Nat.le_of_ble_eq_true rfl)
  refine AWP.ret ⟨.inr rfl, done1 rfl trivial rfl rfl ?_⟩
  exact bif_true (bif_true (eqb_self _) (beq_self_eq_true (α := Int) _)) rfl
theorem law3_ok : CtrOk Tryd.prog dG 5 (lawCtr [u8, u8]) := by
  refine ctr_of_awp (K := kW) kW_ok Tryd.func5 rfl rfl Tryd.call5 rfl (by decide) (by intro h; cases h) ?_
  rintro w0 X hX ⟨(n : UInt8), (x : UInt8), _⟩ hp
  change AWP _ _ _ _ _ ⟨[(0, ⟨u8, n⟩), (1, ⟨u8, x⟩)], [], 0⟩ _
  have hn := n.toNat_lt
  (repeat (first | refine AWP.seq ?_ | refine AWP.skip ?_ | refine AWP.block ?_ | refine AWP.exit ?_)); refine AWP.region hX kW_ok rfl ?_ ?_
  · trivial
  (repeat (first | refine AWP.seq ?_ | refine AWP.skip ?_ | refine AWP.block ?_ | refine AWP.exit ?_)); refine AWP.region hX kW_ok rfl ?_ ?_
  · trivial
  (repeat (first | refine AWP.seq ?_ | refine AWP.skip ?_ | refine AWP.block ?_ | refine AWP.exit ?_)); refine AWP.region hX kW_ok rfl ?_ ?_
  · exact ⟨by show (0 : Int) ≤ (n.toNat : Int); omega, Int.le_refl _, by show (n.toNat : Int) ≤ 1000000000; omega⟩
  obtain ⟨m, hm⟩ : ∃ m, n.toNat = m := ⟨_, rfl⟩
  have hm2 : m < 256 := by omega
  (repeat (first | refine AWP.seq ?_ | refine AWP.skip ?_ | refine AWP.label ?_ | refine AWP.exit ?_ | refine AWP.block ?_ | refine AWP.region hX kW_ok rfl trivial ?_ | refine AWP.region hX kW_ok rfl id ?_ | refine AWP.region hX kW_ok rfl ⟨id, id⟩ ?_))
  refine AWP.loop (ι := Nat) (fun k => ⟨[(1, ⟨u8, x⟩), (5, ⟨.bool, true⟩), (6, ⟨.obuf u8, (0 : Nat)⟩), (7, ⟨i64, (k : Int)⟩)], [(0, some (.buf 5 u8 (List.replicate k x ++ List.replicate (m - k) 0)))], 1⟩) (fun k => k ≤ m) (fun k => m - k) 0 (by omega) ⟨⟨rfl, rfl, rfl, rfl, trivial⟩, ⟨bufEq (show List.replicate ((n.toNat : Int)).toNat (0 : UInt8) = _ by rw [Int.toNat_natCast, hm]; rfl), trivial⟩, rfl, rfl⟩ ?_
  intro k hk
  have hlen : (List.replicate k x ++ List.replicate (m - k) 0).length = m := by simp; omega
  (repeat (first | refine AWP.seq ?_ | refine AWP.skip ?_ | refine AWP.block ?_ | refine AWP.exit ?_)); refine AWP.region hX kW_ok rfl ?_ ?_
  · trivial
  refine AWP.cond rfl (fun hb => ?_) (fun hb => ?_)
  · have hb : decide ((k : Int) < ((List.replicate k x ++ List.replicate (m - k) 0).length : Int)) = true := hb
    rw [hlen] at hb
    simp at hb
    (repeat (first | refine AWP.seq ?_ | refine AWP.skip ?_ | refine AWP.block ?_ | refine AWP.exit ?_)); refine AWP.region hX kW_ok rfl ?_ ?_
    · refine ⟨by omega, ?_, ?_⟩
      · show (k : Int) < ((List.replicate k x ++ List.replicate (m - k) 0).length : Int)
        rw [hlen]; omega
      · show (k : Int).toNat < (List.replicate k x ++ List.replicate (m - k) 0).length
        rw [hlen]; omega
    (repeat (first | refine AWP.seq ?_ | refine AWP.skip ?_ | refine AWP.block ?_ | refine AWP.exit ?_)); refine AWP.region hX kW_ok rfl ?_ ?_
    · exact inR_succ (by omega)
    refine ⟨k + 1, by omega, by omega, ⟨rfl, rfl, rfl, vSucc _, trivial⟩, ⟨bufEq ?_, trivial⟩, rfl, rfl⟩
    show (List.replicate k x ++ List.replicate (m - k) 0).set (k : Int).toNat x = _
    rw [Int.toNat_natCast, List.set_append_right _ _ (by simp), List.length_replicate, Nat.sub_self, show m - k = (m - (k + 1)) + 1 by omega, List.replicate_succ, List.set_cons_zero, List.replicate_succ', List.append_assoc]
    rfl
  · (repeat (first | refine AWP.seq ?_ | refine AWP.skip ?_ | refine AWP.label ?_ | refine AWP.exit ?_ | refine AWP.block ?_ | refine AWP.region hX kW_ok rfl trivial ?_ | refine AWP.region hX kW_ok rfl id ?_ | refine AWP.region hX kW_ok rfl ⟨id, id⟩ ?_))
    (repeat (first | refine AWP.seq ?_ | refine AWP.skip ?_ | refine AWP.block ?_ | refine AWP.exit ?_)); refine AWP.region hX kW_ok rfl ?_ ?_
    · have q : (List.replicate k x ++ List.replicate (m - k) 0).length ≤ 2000000 := by omega
      repeat' (first | exact trivial | assumption | exact q | (refine ⟨?_, ?_⟩) | (intro _) | exact Nat.le_of_ble_eq_true rfl)
    refine AWP.ret ⟨.inr rfl, done1 rfl trivial rfl rfl ?_⟩
    exact bif_true (eqb_self _) rfl
theorem law4_ok : CtrOk Tryd.prog dG 6 (lawCtr [dg, bs]) := by
  refine ctr_of_awp (K := kW) kW_ok Tryd.func6 rfl rfl Tryd.call6 rfl (by decide) (by intro h; cases h) ?_
  rintro w0 X hX ⟨(key : List UInt8), (b : List UInt8), _⟩ hp
  change AWP _ _ _ _ _ ⟨[(0, ⟨dg, key⟩), (1, ⟨bs, b⟩)], [], 0⟩ _
  refine AWP.alen 0 rfl fun hkl => ?_
  have hkl : key.length = 32 := hkl
  have e3 : (keyBlock key 0x36).length = 64 := by unfold keyBlock; simp [hkl]
  have e4 : (keyBlock key 0x5c).length = 64 := by unfold keyBlock; simp [hkl]
  have h1 := take_le b 300
  (repeat (first | refine AWP.seq ?_ | refine AWP.skip ?_ | refine AWP.block ?_ | refine AWP.exit ?_)); refine AWP.region hX kW_ok rfl ?_ ?_
  · trivial
  (repeat (first | refine AWP.seq ?_ | refine AWP.skip ?_ | refine AWP.block ?_ | refine AWP.exit ?_)); refine AWP.region hX kW_ok rfl ?_ ?_
  · trivial
  (repeat (first | refine AWP.seq ?_ | refine AWP.skip ?_ | refine AWP.block ?_ | refine AWP.exit ?_)); refine AWP.region hX kW_ok rfl ?_ ?_
  · exact ⟨by show (0 : Int) ≤ 300; omega, by show (300 : Int) ≤ 1000000; omega⟩
  (repeat (first | refine AWP.seq ?_ | refine AWP.skip ?_ | refine AWP.block ?_ | refine AWP.exit ?_)); refine AWP.region hX kW_ok rfl ?_ ?_
  · trivial
  (repeat (first | refine AWP.seq ?_ | refine AWP.skip ?_ | refine AWP.block ?_ | refine AWP.exit ?_)); refine AWP.region hX kW_ok rfl ?_ ?_
  · refine ⟨?_, ?_⟩
    · show (keyBlock key 54).length + (b.take 300).length ≤ 1000000000
      rw [e3]; omega
    · show (keyBlock key 54 ++ b.take 300).length ≤ 2000000
      rw [List.length_append, e3]; omega
  (repeat (first | refine AWP.seq ?_ | refine AWP.skip ?_ | refine AWP.block ?_ | refine AWP.exit ?_)); refine AWP.region hX kW_ok rfl ?_ ?_
  · trivial
  have q1 : (b.take 300).length ≤ 1000000 := by omega
  have q2 : (keyBlock key 92).length + (sha (keyBlock key 54 ++ b.take 300)).length ≤ 1000000000 := by rw [e4, sha_length]; omega
  have q3 : (keyBlock key 92 ++ sha (keyBlock key 54 ++ b.take 300)).length ≤ 2000000 := by rw [List.length_append, e4, sha_length]; omega
  (repeat (first | refine AWP.seq ?_ | refine AWP.skip ?_ | refine AWP.block ?_ | refine AWP.exit ?_)); refine AWP.draw dM hX kW_ok 6 (by kernel_rfl) rfl rfl ?_ ?_ ?_
  · repeat' (first | exact trivial | assumption | exact q1 | (refine ⟨?_, ?_⟩) | (intro _) | exact Nat.le_of_ble_eq_true rfl)
  · repeat' (first | exact trivial | assumption | exact q2 | exact q3 | (refine ⟨?_, ?_⟩) | (intro _) | exact Nat.le_of_ble_eq_true rfl)
  refine AWP.ret ⟨.inr rfl, done1 rfl trivial rfl rfl ?_⟩
  exact bif_true (eqb_self _) rfl
end Go.Proofs.YtpepbnieocdpbaaDoor
