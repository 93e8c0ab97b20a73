/-
  Package journal, second part: Append, Sync, Repair, Crash.
-/
import Derived.Test.YthhphphdbgkdgaaDoorJPrgA
import Derived.Test.YthhphphdbgkdgaaDoorJRefB
namespace Go.Proofs.YthhphphdbgkdgaaDoor
open Go Go.RowKit
set_option linter.unusedSimpArgs false
set_option linter.unusedVariables false
set_option maxRecDepth 100000
def kJ : Kn := { dK with C := [(13, cValid), (14, cPays), (15, cJoinV), (16, cCheck)] }
theorem kJ_ok : KnOk Tryd.prog dG kJ := dK_ok.with (.cons valid_ok <| .cons pays_ok <| .cons joinV_ok <| .cons check_ok .nil)
def kJo : Kn := { dK with C := [(15, cJoin)] }
theorem kJo_ok : KnOk Tryd.prog dG kJo := dK_ok.with (.cons join_ok .nil)
/-- own slices may be cut at their end -/
def kCut : Kn := { dK with cut := true }
theorem kCut_ok : KnOk Tryd.prog dG kCut := ⟨dK_ok.t, dK_ok.u, dK_ok.c, dK_ok.st, dK_ok.r⟩
theorem le4_word (m : Nat) (h : m < 2 ^ 32) : ([UInt8.ofNat (BitVec.ofInt 32 (m : Int)).toNat, UInt8.ofNat (BitVec.ofInt 32 (m : Int) >>> 8).toNat, UInt8.ofNat (BitVec.ofInt 32 (m : Int) >>> 16).toNat, UInt8.ofNat (BitVec.ofInt 32 (m : Int) >>> 24).toNat] : List UInt8) = le4 m := by
  have e : (BitVec.ofInt 32 (m : Int)).toNat = m := by rw [BitVec.ofInt_natCast, BitVec.toNat_ofNat, Nat.mod_eq_of_lt h]
  rw [BitVec.toNat_ushiftRight, BitVec.toNat_ushiftRight, BitVec.toNat_ushiftRight, e, Nat.shiftRight_eq_div_pow, Nat.shiftRight_eq_div_pow, Nat.shiftRight_eq_div_pow]
  rfl
theorem append_ok : CtrOk Tryd.prog dG 10 (cAppendS 1100000) := by
  refine ctr_of_awp (K := kJ) kJ_ok Tryd.func10 rfl rfl Tryd.call10 rfl (by decide) (by intro h; cases h) ?_
  rintro w0 X hX ⟨(l : Lg), (b : List UInt8), _⟩ hp
  change AWP _ _ _ _ _ ⟨[(0, ⟨jl, l⟩), (1, ⟨bs, b⟩)], [], 0⟩ _
  obtain ⟨p1, p2⟩ : l.1.length ≤ 1100000 ∧ b.length ≤ 1100000 := hp
  (repeat (first | refine AWP.seq ?_ | refine AWP.skip ?_ | refine AWP.block ?_ | refine AWP.exit ?_)); refine AWP.region hX kJ_ok rfl ?_ ?_
  · trivial
  (repeat (first | refine AWP.seq ?_ | refine AWP.skip ?_ | refine AWP.block ?_ | refine AWP.exit ?_)); refine AWP.region hX kJ_ok rfl ?_ ?_
  · trivial
  refine AWP.cond rfl (fun hb => ?_) (fun hb => ?_)
  · have hb : (!validL l) = true := hb
    have hv : ¬ validL l = true := by simpa using hb
    (repeat (first | refine AWP.seq ?_ | refine AWP.skip ?_ | refine AWP.label ?_ | refine AWP.exit ?_ | refine AWP.block ?_ | refine AWP.region hX kJ_ok rfl trivial ?_ | refine AWP.region hX kJ_ok rfl id ?_ | refine AWP.region hX kJ_ok rfl ⟨id, id⟩ ?_))
    refine AWP.ret ⟨.inr rfl, done2 (by decide) rfl rfl trivial ?_⟩
    show (zLog, (1 : Int), ()) = appendS l b
    unfold appendS
    rw [if_neg hv]
  have hb : (!validL l) = false := hb
  have hv : validL l = true := by simpa using hb
  (repeat (first | refine AWP.seq ?_ | refine AWP.skip ?_ | refine AWP.block ?_ | refine AWP.exit ?_)); refine AWP.region hX kJ_ok rfl ?_ ?_
  · exact p1
  (repeat (first | refine AWP.seq ?_ | refine AWP.skip ?_ | refine AWP.block ?_ | refine AWP.exit ?_)); refine AWP.region hX kJ_ok rfl ?_ ?_
  · trivial
  refine AWP.cond rfl (fun hb => ?_) (fun hb => ?_)
  · have hb : decide (((recs l.1).2 : Int) < (l.1.length : Nat)) = true := hb
    have hb := of_decide_eq_true hb
    (repeat (first | refine AWP.seq ?_ | refine AWP.skip ?_ | refine AWP.label ?_ | refine AWP.exit ?_ | refine AWP.block ?_ | refine AWP.region hX kJ_ok rfl trivial ?_ | refine AWP.region hX kJ_ok rfl id ?_ | refine AWP.region hX kJ_ok rfl ⟨id, id⟩ ?_))
    refine AWP.ret ⟨.inr rfl, done2 (by decide) rfl rfl trivial ?_⟩
    show (zLog, (10 : Int), ()) = appendS l b
    unfold appendS
    rw [if_pos hv, if_pos (by omega)]
  have hb : decide (((recs l.1).2 : Int) < (l.1.length : Nat)) = false := hb
  have hb1 := of_decide_eq_false hb
  (repeat (first | refine AWP.seq ?_ | refine AWP.skip ?_ | refine AWP.block ?_ | refine AWP.exit ?_)); refine AWP.region hX kJ_ok rfl ?_ ?_
  · exact ⟨inR_small (by show _ ≤ ((l.1.length : Nat) : Int) + 12; omega) (by show ((l.1.length : Nat) : Int) + 12 ≤ _; omega), inR_small (by show _ ≤ ((l.1.length : Nat) : Int) + 12 + (b.length : Nat); omega) (by show ((l.1.length : Nat) : Int) + 12 + (b.length : Nat) ≤ _; omega)⟩
  refine AWP.cond rfl (fun hb => ?_) (fun hb => ?_)
  · have hb : decide (((l.1.length : Nat) : Int) + 12 + (b.length : Nat) > 1048576) = true := hb
    have hb := of_decide_eq_true hb
    (repeat (first | refine AWP.seq ?_ | refine AWP.skip ?_ | refine AWP.label ?_ | refine AWP.exit ?_ | refine AWP.block ?_ | refine AWP.region hX kJ_ok rfl trivial ?_ | refine AWP.region hX kJ_ok rfl id ?_ | refine AWP.region hX kJ_ok rfl ⟨id, id⟩ ?_))
    refine AWP.ret ⟨.inr rfl, done2 (by decide) rfl rfl trivial ?_⟩
    show (zLog, (2 : Int), ()) = appendS l b
    unfold appendS
    rw [if_pos hv, if_neg (by omega), if_pos (by omega)]
  have hb : decide (((l.1.length : Nat) : Int) + 12 + (b.length : Nat) > 1048576) = false := hb
  have hb2 := of_decide_eq_false hb
  (repeat (first | refine AWP.seq ?_ | refine AWP.skip ?_ | refine AWP.block ?_ | refine AWP.exit ?_)); refine AWP.region hX kJ_ok rfl ?_ ?_
  · trivial
  have q1 : b.length ≤ 2000000 := by omega
  have hw := le4_word b.length (by omega)
  have hs := sha_length b
  have e : List.flatten [l.1, ([UInt8.ofNat (BitVec.ofInt 32 (b.length : Int)).toNat, UInt8.ofNat (BitVec.ofInt 32 (b.length : Int) >>> 8).toNat, UInt8.ofNat (BitVec.ofInt 32 (b.length : Int) >>> 16).toNat, UInt8.ofNat (BitVec.ofInt 32 (b.length : Int) >>> 24).toNat] : List UInt8), (sha b).take 8, b] = l.1 ++ rcd b := by
    rw [hw]
    simp [rcd]
  have q2 : (List.flatten [l.1, ([UInt8.ofNat (BitVec.ofInt 32 (b.length : Int)).toNat, UInt8.ofNat (BitVec.ofInt 32 (b.length : Int) >>> 8).toNat, UInt8.ofNat (BitVec.ofInt 32 (b.length : Int) >>> 16).toNat, UInt8.ofNat (BitVec.ofInt 32 (b.length : Int) >>> 24).toNat] : List UInt8), (sha b).take 8, b]).length ≤ 100000000 := by
    rw [e, List.length_append, rcd_length]; omega
  (repeat (first | refine AWP.seq ?_ | refine AWP.skip ?_ | refine AWP.block ?_ | refine AWP.exit ?_)); refine AWP.draw dM hX kJ_ok 22 (by kernel_rfl) rfl rfl ?_ ?_ ?_
  · repeat' (first | exact trivial | assumption | exact q1 | exact q2 | (refine ⟨?_, ?_⟩) | (intro _) | exact Nat.le_of_ble_eq_true rfl | exact Int.natCast_nonneg _ | (simp_all [allP]; done))
  · trivial
  refine AWP.ret ⟨.inr rfl, done2 (by decide) rfl rfl trivial ?_⟩
  show ((List.flatten [l.1, ([UInt8.ofNat (BitVec.ofInt 32 (b.length : Int)).toNat, UInt8.ofNat (BitVec.ofInt 32 (b.length : Int) >>> 8).toNat, UInt8.ofNat (BitVec.ofInt 32 (b.length : Int) >>> 16).toNat, UInt8.ofNat (BitVec.ofInt 32 (b.length : Int) >>> 24).toNat] : List UInt8), (sha b).take 8, b], l.2.1, ()), (0 : Int), ()) = appendS l b
  rw [e]
  unfold appendS
  rw [if_pos hv, if_neg (by omega), if_neg (by omega)]
def cSync : Ctr := { args := [jl], pre := fun x => [List.length x.1.1 ≤ 1100000], res := .tup jl (.tup i64 .unit), own := none, out := fun x => syncS x.1 }
theorem sync_ok : CtrOk Tryd.prog dG 11 cSync := by
  refine ctr_of_awp (K := kJ) kJ_ok Tryd.func11 rfl rfl Tryd.call11 rfl (by decide) (by intro h; cases h) ?_
  rintro w0 X hX ⟨(l : Lg), _⟩ hp
  change AWP _ _ _ _ _ ⟨[(0, ⟨jl, l⟩)], [], 0⟩ _
  have p1 : l.1.length ≤ 1100000 := hp
  (repeat (first | refine AWP.seq ?_ | refine AWP.skip ?_ | refine AWP.block ?_ | refine AWP.exit ?_)); refine AWP.region hX kJ_ok rfl ?_ ?_
  · trivial
  (repeat (first | refine AWP.seq ?_ | refine AWP.skip ?_ | refine AWP.block ?_ | refine AWP.exit ?_)); refine AWP.region hX kJ_ok rfl ?_ ?_
  · trivial
  refine AWP.cond rfl (fun hb => ?_) (fun hb => ?_)
  · have hb : (!validL l) = true := hb
    have hv : ¬ validL l = true := by simpa using hb
    (repeat (first | refine AWP.seq ?_ | refine AWP.skip ?_ | refine AWP.label ?_ | refine AWP.exit ?_ | refine AWP.block ?_ | refine AWP.region hX kJ_ok rfl trivial ?_ | refine AWP.region hX kJ_ok rfl id ?_ | refine AWP.region hX kJ_ok rfl ⟨id, id⟩ ?_))
    refine AWP.ret ⟨.inr rfl, done2 (by decide) rfl rfl trivial ?_⟩
    show (zLog, (1 : Int), ()) = syncS l
    unfold syncS
    rw [if_neg hv]
  have hb : (!validL l) = false := hb
  have hv : validL l = true := by simpa using hb
  have e : List.flatten [l.1] = l.1 := by simp
  have q1 : (List.flatten [l.1]).length ≤ 100000000 := by rw [e]; omega
  (repeat (first | refine AWP.seq ?_ | refine AWP.skip ?_ | refine AWP.block ?_ | refine AWP.exit ?_)); refine AWP.draw dM hX kJ_ok 8 (by kernel_rfl) rfl rfl ?_ ?_ ?_
  · repeat' (first | exact trivial | assumption | exact q1 | (refine ⟨?_, ?_⟩) | (intro _) | exact Nat.le_of_ble_eq_true rfl | exact Int.natCast_nonneg _ | (simp_all [allP]; done))
  · trivial
  refine AWP.ret ⟨.inr rfl, done2 (by decide) rfl rfl trivial ?_⟩
  show ((List.flatten [l.1], ((l.1.length : Nat) : Int), ()), (0 : Int), ()) = syncS l
  rw [e]
  unfold syncS
  rw [if_pos hv]
def cRepair : Ctr := { args := [jl], pre := fun x => [List.length x.1.1 ≤ 1100000], res := .tup jl (.tup i64 .unit), own := none, out := fun x => repairS x.1 }
theorem repair_ok : CtrOk Tryd.prog dG 9 cRepair := by
  refine ctr_of_awp (K := kJ) kJ_ok Tryd.func9 rfl rfl Tryd.call9 rfl (by decide) (by intro h; cases h) ?_
  rintro w0 X hX ⟨(l : Lg), _⟩ hp
  change AWP _ _ _ _ _ ⟨[(0, ⟨jl, l⟩)], [], 0⟩ _
  have p1 : l.1.length ≤ 1100000 := hp
  have hle := recs_le l.1
  (repeat (first | refine AWP.seq ?_ | refine AWP.skip ?_ | refine AWP.block ?_ | refine AWP.exit ?_)); refine AWP.region hX kJ_ok rfl ?_ ?_
  · trivial
  (repeat (first | refine AWP.seq ?_ | refine AWP.skip ?_ | refine AWP.block ?_ | refine AWP.exit ?_)); refine AWP.region hX kJ_ok rfl ?_ ?_
  · trivial
  refine AWP.cond rfl (fun hb => ?_) (fun hb => ?_)
  · have hb : (!validL l) = true := hb
    have hv : ¬ validL l = true := by simpa using hb
    (repeat (first | refine AWP.seq ?_ | refine AWP.skip ?_ | refine AWP.label ?_ | refine AWP.exit ?_ | refine AWP.block ?_ | refine AWP.region hX kJ_ok rfl trivial ?_ | refine AWP.region hX kJ_ok rfl id ?_ | refine AWP.region hX kJ_ok rfl ⟨id, id⟩ ?_))
    refine AWP.ret ⟨.inr rfl, done2 (by decide) rfl rfl trivial ?_⟩
    show (zLog, (1 : Int), ()) = repairS l
    unfold repairS
    rw [if_neg hv]
  have hb : (!validL l) = false := hb
  have hv : validL l = true := by simpa using hb
  (repeat (first | refine AWP.seq ?_ | refine AWP.skip ?_ | refine AWP.block ?_ | refine AWP.exit ?_)); refine AWP.region hX kJ_ok rfl ?_ ?_
  · exact p1
  (repeat (first | refine AWP.seq ?_ | refine AWP.skip ?_ | refine AWP.block ?_ | refine AWP.exit ?_)); refine AWP.region hX kJ_ok rfl ?_ ?_
  · trivial
  refine AWP.cond rfl (fun hb => ?_) (fun hb => ?_)
  · have hb : decide (((recs l.1).2 : Int) < l.2.1) = true := hb
    have hb := of_decide_eq_true hb
    (repeat (first | refine AWP.seq ?_ | refine AWP.skip ?_ | refine AWP.label ?_ | refine AWP.exit ?_ | refine AWP.block ?_ | refine AWP.region hX kJ_ok rfl trivial ?_ | refine AWP.region hX kJ_ok rfl id ?_ | refine AWP.region hX kJ_ok rfl ⟨id, id⟩ ?_))
    refine AWP.ret ⟨.inr rfl, done2 (by decide) rfl rfl trivial ?_⟩
    show (zLog, (10 : Int), ()) = repairS l
    unfold repairS
    rw [if_pos hv, if_pos hb]
  have hb : decide (((recs l.1).2 : Int) < l.2.1) = false := hb
  have hb1 := of_decide_eq_false hb
  have e : List.flatten [l.1.take (((recs l.1).2 : Nat) : Int).toNat] = l.1.take (recs l.1).2 := by simp
  (repeat (first | refine AWP.seq ?_ | refine AWP.skip ?_ | refine AWP.block ?_ | refine AWP.exit ?_)); refine AWP.region hX kJ_ok rfl ?_ ?_
  · refine ⟨by show (0 : Int) ≤ (((recs l.1).2 : Nat) : Int); omega, by show (((recs l.1).2 : Nat) : Int) ≤ ((l.1.length : Nat) : Int); omega, ?_⟩
    show (List.flatten [l.1.take (((recs l.1).2 : Nat) : Int).toNat]).length ≤ 100000000
    rw [e, List.length_take]; omega
  refine AWP.ret ⟨.inr rfl, done2 (by decide) rfl rfl trivial ?_⟩
  show ((List.flatten [l.1.take (((recs l.1).2 : Nat) : Int).toNat], (((recs l.1).2 : Nat) : Int), ()), (0 : Int), ()) = repairS l
  rw [e]
  unfold repairS
  rw [if_pos hv, if_neg hb1]
def cCrash : Ctr := { args := [jl, jt], pre := fun x => [List.length x.1.1 ≤ 1100000], res := .tup jl (.tup i64 .unit), own := none, out := fun x => crashS x.1 x.2.1 }
theorem crash_ok : CtrOk Tryd.prog dG 8 cCrash := by
  refine ctr_of_awp (K := kJ) kJ_ok Tryd.func8 rfl rfl Tryd.call8 rfl (by decide) (by intro h; cases h) ?_
  rintro w0 X hX ⟨(l : Lg), (t : Tr), _⟩ hp
  change AWP _ _ _ _ _ ⟨[(0, ⟨jl, l⟩), (1, ⟨jt, t⟩)], [], 0⟩ _
  have p1 : l.1.length ≤ 1100000 := hp
  (repeat (first | refine AWP.seq ?_ | refine AWP.skip ?_ | refine AWP.block ?_ | refine AWP.exit ?_)); refine AWP.region hX kJ_ok rfl ?_ ?_
  · trivial
  (repeat (first | refine AWP.seq ?_ | refine AWP.skip ?_ | refine AWP.block ?_ | refine AWP.exit ?_)); refine AWP.region hX kJ_ok rfl ?_ ?_
  · repeat' (first | exact trivial | assumption | (refine ⟨?_, ?_⟩) | (intro _) | exact Nat.le_of_ble_eq_true rfl | exact Int.natCast_nonneg _ | (simp_all [allP]; done))
  refine AWP.cond rfl (fun hb => ?_) (fun hb => ?_)
  · have hb : (bif !validL l then true else decide (t.1 < 0)) = true := hb
    (repeat (first | refine AWP.seq ?_ | refine AWP.skip ?_ | refine AWP.label ?_ | refine AWP.exit ?_ | refine AWP.block ?_ | refine AWP.region hX kJ_ok rfl trivial ?_ | refine AWP.region hX kJ_ok rfl id ?_ | refine AWP.region hX kJ_ok rfl ⟨id, id⟩ ?_))
    refine AWP.ret ⟨.inr rfl, done2 (by decide) rfl rfl trivial ?_⟩
    show (zLog, (1 : Int), ()) = crashS l t
    unfold crashS
    rw [if_neg]
    rintro ⟨h1, h2⟩
    rw [h1, decide_eq_false (by omega)] at hb
    cases hb
  have hb : (bif !validL l then true else decide (t.1 < 0)) = false := hb
  have hv : validL l = true := by
    cases h : validL l with
    | true => rfl
    | false => rw [h] at hb; cases hb
  have hk : 0 ≤ t.1 := by
    rw [hv] at hb
    have : decide (t.1 < 0) = false := hb
    have := of_decide_eq_false this
    omega
  obtain ⟨⟨s1, s2⟩, s3⟩ := validL_iff.1 hv
  have e3 : List.flatten [l.1.drop l.2.1.toNat] = l.1.drop l.2.1.toNat := by simp
  (repeat (first | refine AWP.seq ?_ | refine AWP.skip ?_ | refine AWP.block ?_ | refine AWP.exit ?_)); refine AWP.region hX kJo_ok rfl ?_ ?_
  · refine ⟨s1, s2, ?_⟩
    show (List.flatten [l.1.drop l.2.1.toNat]).length ≤ 100000000
    rw [e3, List.length_drop]; omega
  refine AWP.fit (σ' := ⟨[(2, ⟨.optr jl, ⟨0, jl, .here⟩⟩), (3, ⟨.optr jt, ⟨1, jt, .here⟩⟩), (4, ⟨.optr jl, ⟨2, jl, .here⟩⟩), (5, ⟨i64, (0 : Int)⟩), (6, ⟨.obuf u8, (4 : Nat)⟩)], [(0, some (.box jl l)), (1, some (.box jt t)), (2, some (.box jl zLog)), (4, some (.buf 5 u8 (l.1.drop l.2.1.toNat)))], 5⟩) ⟨⟨rfl, rfl, rfl, rfl, rfl, trivial⟩, ⟨rfl, rfl, rfl, bufEq e3, trivial⟩, rfl, rfl⟩ ?_
  obtain ⟨r0, hr0⟩ : ∃ r0, l.1.drop l.2.1.toNat = r0 := ⟨_, rfl⟩
  have hl0 : r0.length ≤ l.1.length := by rw [← hr0, List.length_drop]; omega
  rw [hr0]
  (repeat (first | refine AWP.seq ?_ | refine AWP.skip ?_ | refine AWP.block ?_ | refine AWP.exit ?_)); refine AWP.region hX kCut_ok rfl ?_ ?_
  · exact ⟨by show (0 : Int) ≤ min t.1 (r0.length : Nat); omega, by show min t.1 ((r0.length : Nat) : Int) ≤ ((r0.length : Nat) : Int); omega⟩
  have hmin : r0.take (min t.1 ((r0.length : Nat) : Int)).toNat = r0.take t.1.toNat := by
    rw [List.take_eq_take_iff]
    omega
  refine AWP.fit (σ' := ⟨[(2, ⟨.optr jl, ⟨0, jl, .here⟩⟩), (3, ⟨.optr jt, ⟨1, jt, .here⟩⟩), (4, ⟨.optr jl, ⟨2, jl, .here⟩⟩), (5, ⟨i64, (0 : Int)⟩), (6, ⟨.obuf u8, (4 : Nat)⟩)], [(0, some (.box jl l)), (1, some (.box jt t)), (2, some (.box jl zLog)), (4, some (.buf 5 u8 (r0.take t.1.toNat)))], 5⟩) ⟨⟨rfl, rfl, rfl, rfl, rfl, trivial⟩, ⟨rfl, rfl, rfl, bufEq hmin, trivial⟩, rfl, rfl⟩ ?_
  obtain ⟨r1, hr1⟩ : ∃ r1, r0.take t.1.toNat = r1 := ⟨_, rfl⟩
  have hl1 : r1.length ≤ r0.length := by rw [← hr1, List.length_take]; omega
  rw [hr1]
  (repeat (first | refine AWP.seq ?_ | refine AWP.skip ?_ | refine AWP.block ?_ | refine AWP.exit ?_)); refine AWP.region hX dK_ok rfl ?_ ?_
  · repeat' (first | exact trivial | assumption | (refine ⟨?_, ?_⟩) | (intro _) | exact Nat.le_of_ble_eq_true rfl | exact Int.natCast_nonneg _ | (simp_all [allP]; done))
  have fin : ∀ r : List UInt8, r.length = r1.length → torn (l.1.drop l.2.1.toNat) t = r → List.flatten [l.1.take l.2.1.toNat, r] = l.1.take l.2.1.toNat ++ r ∧ (List.flatten [l.1.take l.2.1.toNat, r]).length ≤ 100000000 := fun r h1 _ => by
    have e : List.flatten [l.1.take l.2.1.toNat, r] = l.1.take l.2.1.toNat ++ r := by simp
    refine ⟨e, ?_⟩
    rw [e, List.length_append, List.length_take]; omega
  refine AWP.cond rfl (fun hb => ?_) (fun hb => ?_)
  · have hb : (bif decide ((0 : Int) ≤ t.2.1) then decide (t.2.1 < (r1.length : Nat)) else false) = true := hb
    rw [test2] at hb
    obtain ⟨b1, b2⟩ := hb
    have b3 : t.2.1.toNat < r1.length := by omega
    (repeat (first | refine AWP.seq ?_ | refine AWP.skip ?_ | refine AWP.block ?_ | refine AWP.exit ?_)); refine AWP.region hX dK_ok rfl ?_ ?_
    · exact ⟨b1, b2, b3⟩
    have htorn : torn (l.1.drop l.2.1.toNat) t = r1.set t.2.1.toNat t.2.2.1 := by
      unfold torn
      rw [hr0, hr1, if_pos ⟨b1, b2⟩]
    obtain ⟨e9, q9⟩ := fin (r1.set t.2.1.toNat t.2.2.1) (by rw [List.length_set]) htorn
    refine AWP.fit (σ' := ⟨[(2, ⟨.optr jl, ⟨0, jl, .here⟩⟩), (3, ⟨.optr jt, ⟨1, jt, .here⟩⟩), (4, ⟨.optr jl, ⟨2, jl, .here⟩⟩), (5, ⟨i64, (0 : Int)⟩), (6, ⟨.obuf u8, (4 : Nat)⟩)], [(0, some (.box jl l)), (1, some (.box jt t)), (2, some (.box jl zLog)), (4, some (.buf 5 u8 (r1.set t.2.1.toNat t.2.2.1)))], 5⟩) ⟨⟨rfl, rfl, rfl, rfl, rfl, trivial⟩, ⟨rfl, rfl, rfl, rfl, trivial⟩, rfl, rfl⟩ ?_
    generalize r1.set t.2.1.toNat t.2.2.1 = r at *
    refine AWP.frz hX 6 ?_
    (repeat (first | refine AWP.seq ?_ | refine AWP.skip ?_ | refine AWP.block ?_ | refine AWP.exit ?_)); refine AWP.draw dM hX kJ_ok 11 (by kernel_rfl) rfl rfl ?_ ?_ ?_
    · repeat' (first | exact trivial | assumption | exact s1 | exact s2 | exact q9 | (refine ⟨?_, ?_⟩) | (intro _) | exact Nat.le_of_ble_eq_true rfl | exact Int.natCast_nonneg _ | (simp_all [allP]; done))
    · trivial
    refine AWP.ret ⟨.inr rfl, done2 (by decide) rfl rfl trivial ?_⟩
    show ((List.flatten [l.1.take l.2.1.toNat, r], l.2.1, ()), (0 : Int), ()) = crashS l t
    rw [e9]
    unfold crashS
    rw [if_pos ⟨hv, hk⟩, htorn]
  · have hb : (bif decide ((0 : Int) ≤ t.2.1) then decide (t.2.1 < (r1.length : Nat)) else false) = false := hb
    have hb : ¬ (0 ≤ t.2.1 ∧ t.2.1 < ((r1.length : Nat) : Int)) := fun h => by rw [← Bool.not_eq_true, test2] at hb; exact hb h
    refine AWP.skip ?_
    have htorn : torn (l.1.drop l.2.1.toNat) t = r1 := by
      unfold torn
      rw [hr0, hr1, if_neg hb]
    obtain ⟨e9, q9⟩ := fin r1 rfl htorn
    refine AWP.fit (σ' := ⟨[(2, ⟨.optr jl, ⟨0, jl, .here⟩⟩), (3, ⟨.optr jt, ⟨1, jt, .here⟩⟩), (4, ⟨.optr jl, ⟨2, jl, .here⟩⟩), (5, ⟨i64, (0 : Int)⟩), (6, ⟨.obuf u8, (4 : Nat)⟩)], [(0, some (.box jl l)), (1, some (.box jt t)), (2, some (.box jl zLog)), (4, some (.buf 5 u8 (r1)))], 5⟩) ⟨⟨rfl, rfl, rfl, rfl, rfl, trivial⟩, ⟨rfl, rfl, rfl, rfl, trivial⟩, rfl, rfl⟩ ?_
    generalize r1 = r at *
    refine AWP.frz hX 6 ?_
    (repeat (first | refine AWP.seq ?_ | refine AWP.skip ?_ | refine AWP.block ?_ | refine AWP.exit ?_)); refine AWP.draw dM hX kJ_ok 11 (by kernel_rfl) rfl rfl ?_ ?_ ?_
    · repeat' (first | exact trivial | assumption | exact s1 | exact s2 | exact q9 | (refine ⟨?_, ?_⟩) | (intro _) | exact Nat.le_of_ble_eq_true rfl | exact Int.natCast_nonneg _ | (simp_all [allP]; done))
    · trivial
    refine AWP.ret ⟨.inr rfl, done2 (by decide) rfl rfl trivial ?_⟩
    show ((List.flatten [l.1.take l.2.1.toNat, r], l.2.1, ()), (0 : Int), ()) = crashS l t
    rw [e9]
    unfold crashS
    rw [if_pos ⟨hv, hk⟩, htorn]
end Go.Proofs.YthhphphdbgkdgaaDoor
