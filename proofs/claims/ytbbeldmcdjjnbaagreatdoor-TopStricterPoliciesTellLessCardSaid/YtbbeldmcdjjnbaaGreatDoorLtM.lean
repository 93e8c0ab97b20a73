/-
  Package letter: types; the fields that an answer uses, their limits.
  Package letter: the pointers to the fields that are numbers.
-/
import Derived.Test.YtbbeldmcdjjnbaaGreatDoorCoG
import Derived.Test.YtbbeldmcdjjnbaaGreatDoorAbsOwn
import Derived.Test.YtbbeldmcdjjnbaaGreatDoorDPrgN
import Derived.Test.YtbbeldmcdjjnbaaGreatDoorAbsVar
import Derived.StillTailTactics
namespace Go.Proofs.YtbbeldmcdjjnbaaGreatDoor
open Go Go.RowKit
set_option linter.unusedSimpArgs false
set_option linter.unusedVariables false
set_option maxRecDepth 100000
abbrev nd : Ty := .pair i64 (.pair i64 (.pair i64 (.pair i64 (.pair i64 (.pair i64 (.pair ints (.pair .str .unit)))))))
abbrev mv : Ty := .pair i64 (.pair .bool (.pair i64 (.pair i64 (.pair i64 .unit))))
abbrev se : Ty := .pair (.slice nd) (.pair i64 (.pair i64 (.pair .str (.pair i64 (.pair i64 (.pair (.slice mv) .unit))))))
abbrev lt : Ty := .pair i64 (.pair i64 (.pair i64 (.pair i64 (.pair i64 (.pair i64 (.pair i64 (.pair i64 (.pair i64 (.pair i64 (.pair i64 (.pair i64 (.pair mv (.pair se (.pair i64 (.pair i64 (.pair i64 (.pair sp (.pair ints (.pair dg .unit)))))))))))))))))))
abbrev ev : Ty := .pair i64 (.pair i64 (.pair i64 (.pair bs (.pair dg .unit))))
def ltT : Tbl := coT ++ [(48, dg), (53, .slice dg), (156, nd), (56, .slice nd), (57, .slice nd), (55, mv), (58, .slice mv), (60, se), (62, lt), (50, ev), (121, i64), (135, .arr 19 i64), (169, .arr 17 (.arr 2 i64)), (142, .arr 17 .bool), (143, ints), (166, .arr 8 u8), (167, .int .u64), (138, .arr 3 i64)]
def ltQ : List TypeId := pQ ++ [48, 55, 35]
def ltU : UTbl := coU ++ [(53, 48), (143, 121), (56, 156), (58, 55)]
def ltK : Kn := { T := ltT, Q := ltQ, U := ltU, C := [] }
theorem ltT_ok : TOk Tryz.prog ltT ltQ := tok_of (by kernel_rfl) (by kernel_rfl)
theorem ltU_ok : UOk Tryz.prog ltU := elemB_ok (by kernel_rfl)
theorem ltK_ok : KnOk Tryz.prog pG ltK := ⟨ltT_ok, ltU_ok, CsOk.nil, fun _ _ _ _ => trivial, RsOk.nil⟩
abbrev Mv := Int × Bool × Int × Int × Int × Unit
abbrev Lt := lt.T
def zMv : Mv := (0, false, 0, 0, 0, ())
def zSe : se.T := ([], 0, 0, [], 0, 0, [], ())
def zDg : List UInt8 := List.replicate 32 0
/-- an answer -/
def ansL (v : List Int) (g : Int) (w : Sp) : Lt := (16, 1, 0, 0, 0, 0, 0, 2, 3, 0, 0, 0, zMv, zSe, 0, 0, g, w, v, zDg, ())
def ansOk (l : Lt) : Prop := ∃ v g w, l = ansL v g w ∧ (1 ≤ g ∧ g ≤ 4) ∧ (-2251799813685248 ≤ w.1 ∧ w.1 ≤ w.2.1 ∧ w.2.1 ≤ 2251799813685248) ∧ bytesI v ∧ v.length ≤ 65536
/-- the fields that an answer uses -/
def usesA (f : Int) : Bool := decide (f = 4 ∨ f = 5 ∨ f = 13 ∨ f = 14 ∨ f = 15 ∨ f = 16)
def cUses : Ctr := { args := [i64, i64], pre := fun x => [x.1 = 16, 0 ≤ x.2.1, x.2.1 < 17], res := .bool, own := none, out := fun x => usesA x.2.1 }
theorem uses_ok : CtrOk Tryz.prog pG 57 cUses := by
  refine ctr_of_awp (K := ltK) ltK_ok Tryz.func57 rfl rfl Tryz.call57 rfl (by decide) (by intro h; cases h) ?_
  rintro w0 X hX ⟨(k : Int), (f : Int), ⟨⟩⟩ ⟨hk, h0, h17⟩
  obtain rfl : k = 16 := hk
  change AWP _ _ _ _ _ ⟨[(0, ⟨i64, (16 : Int)⟩), (1, ⟨i64, f⟩)], [], 0⟩ _
  (repeat (first | refine AWP.seq ?_ | refine AWP.skip ?_ | refine AWP.block ?_ | refine AWP.exit ?_)); refine AWP.region hX ltK_ok rfl ?_ ?_
  · trivial
  (repeat (first | refine AWP.seq ?_ | refine AWP.skip ?_ | refine AWP.block ?_ | refine AWP.exit ?_)); refine AWP.region hX ltK_ok rfl ?_ ?_
  · trivial
  (repeat (first | refine AWP.seq ?_ | refine AWP.skip ?_ | refine AWP.block ?_ | refine AWP.exit ?_)); refine AWP.region hX ltK_ok rfl ?_ ?_
  · trivial
  (repeat (first | refine AWP.seq ?_ | refine AWP.skip ?_ | refine AWP.block ?_ | refine AWP.exit ?_)); refine AWP.region hX ltK_ok rfl ?_ ?_
  · simp only [allP]; decide
  refine AWP.fit (σ' := ⟨[(0, ⟨i64, (16 : Int)⟩), (1, ⟨i64, f⟩), (7, ⟨.optr (.arr 19 i64), ⟨0, .arr 19 i64, .here⟩⟩)], [(0, some (.box (.arr 19 i64) [0, 1043, 19, 19, 531, 51, 1923, 3, 40049, 100417, 102465, 102401, 102401, 32769, 102401, 24624, 122928, 98316, 65537]))], 1⟩) ⟨⟨rfl, rfl, rfl, trivial⟩, ⟨boxEq (by decide), trivial⟩, rfl, rfl⟩ ?_
  refine AWP.frzB hX 7 ?_
  have h0 : 0 ≤ f := h0
  have h17 : f < 17 := h17
  have hf : f = 0 ∨ f = 1 ∨ f = 2 ∨ f = 3 ∨ f = 4 ∨ f = 5 ∨ f = 6 ∨ f = 7 ∨ f = 8 ∨ f = 9 ∨ f = 10 ∨ f = 11 ∨ f = 12 ∨ f = 13 ∨ f = 14 ∨ f = 15 ∨ f = 16 := by omega
  rcases hf with rfl | rfl | rfl | rfl | rfl | rfl | rfl | rfl | rfl | rfl | rfl | rfl | rfl | rfl | rfl | rfl | rfl
  all_goals
    (repeat (first | refine AWP.seq ?_ | refine AWP.skip ?_ | refine AWP.block ?_ | refine AWP.exit ?_)); refine AWP.region hX ltK_ok rfl ?_ ?_
    · simp only [allP]; decide
    exact AWP.ret ⟨.inr rfl, done1 rfl trivial rfl rfl (by rfl)⟩
def cNoSer : Ctr := { args := [se], pre := fun x => [x.1 = zSe], res := .bool, own := none, out := fun _ => true }
theorem noSer_ok : CtrOk Tryz.prog pG 67 cNoSer := by
  refine ctr_of_awp (K := ltK) ltK_ok Tryz.func67 rfl rfl Tryz.call67 rfl (by decide) (by intro h; cases h) ?_
  rintro w0 X hX ⟨(s : se.T), ⟨⟩⟩ hp
  obtain rfl : s = zSe := hp
  change AWP _ _ _ _ _ ⟨[(0, ⟨se, zSe⟩)], [], 0⟩ _
  (repeat (first | refine AWP.seq ?_ | refine AWP.skip ?_ | refine AWP.block ?_ | refine AWP.exit ?_)); refine AWP.region hX ltK_ok rfl ?_ ?_
  · trivial
  refine AWP.frzB hX 1 ?_
  (repeat (first | refine AWP.seq ?_ | refine AWP.skip ?_ | refine AWP.block ?_ | refine AWP.exit ?_)); refine AWP.region hX ltK_ok rfl ?_ ?_
  · repeat' (first | exact trivial | assumption | (intro _) | exact inR_small (by decide) (by decide) | (refine ⟨?_, ?_⟩))
  exact AWP.ret ⟨.inr rfl, done1 rfl trivial rfl rfl (by rfl)⟩
/-- the ranges of the fields of an answer that are numbers -/
def limL : List (List Int) := [[1, 1099511627776], [1, 1099511627776], [0, 15], [1, 64], [0, 511], [0, 511], [0, 255], [1, 3], [0, 1099511627776], [0, 0], [0, 0], [0, 2251799813685248], [0, 18], [1, 4], [0, 0], [0, 0], [0, 0]]
def limS (f : Int) : List Int := limL.getD f.toNat [0, 0]
def cLim : Ctr := { args := [i64, i64], pre := fun x => [x.1 = 16, 0 ≤ x.2.1, x.2.1 < 17], res := .tup i64 (.tup i64 .unit), own := none, out := fun x => ((limS x.2.1).getD 0 0, (limS x.2.1).getD 1 0, ()) }
set_option maxHeartbeats 4000000 in
theorem lim_ok : CtrOk Tryz.prog pG 73 cLim := by
  refine ctr_of_awp (K := ltK) ltK_ok Tryz.func73 rfl rfl Tryz.call73 rfl (by decide) (by intro h; cases h) ?_
  rintro w0 X hX ⟨(k : Int), (f : Int), ⟨⟩⟩ ⟨hk, h0, h17⟩
  obtain rfl : k = 16 := hk
  change AWP _ _ _ _ _ ⟨[(0, ⟨i64, (16 : Int)⟩), (1, ⟨i64, f⟩)], [], 0⟩ _
  have h0 : 0 ≤ f := h0
  have h17 : f < 17 := h17
  (repeat (first | refine AWP.seq ?_ | refine AWP.skip ?_ | refine AWP.block ?_ | refine AWP.exit ?_)); refine AWP.region hX ltK_ok rfl ?_ ?_
  · trivial
  (repeat (first | refine AWP.seq ?_ | refine AWP.skip ?_ | refine AWP.block ?_ | refine AWP.exit ?_)); refine AWP.region hX ltK_ok rfl ?_ ?_
  · trivial
  refine AWP.seq ?_
  refine AWP.list ?_
  refine AL.take 15 hX ltK_ok rfl trivial ?_
  refine AL.fit (σ' := ⟨[(0, ⟨i64, (16 : Int)⟩), (1, ⟨i64, f⟩), (9, ⟨.arr 2 i64, ([1, 1099511627776] : List Int)⟩), (10, ⟨.arr 2 i64, ([1, 1099511627776] : List Int)⟩), (12, ⟨.arr 2 i64, ([0, 15] : List Int)⟩), (13, ⟨.arr 2 i64, ([1, 64] : List Int)⟩), (15, ⟨.arr 2 i64, ([0, 511] : List Int)⟩), (17, ⟨.arr 2 i64, ([0, 511] : List Int)⟩), (18, ⟨.arr 2 i64, ([0, 255] : List Int)⟩), (19, ⟨.arr 2 i64, ([1, 3] : List Int)⟩), (20, ⟨.arr 2 i64, ([0, 1099511627776] : List Int)⟩), (21, ⟨.arr 2 i64, ([0, 2251799813685248] : List Int)⟩), (22, ⟨.arr 2 i64, ([0, 18] : List Int)⟩), (23, ⟨.arr 2 i64, ([1, 4] : List Int)⟩)], [], 0⟩) ⟨⟨rfl, rfl, rfl, rfl, rfl, rfl, rfl, rfl, rfl, rfl, rfl, rfl, rfl, rfl,  trivial⟩, trivial, rfl, rfl⟩ ?_
  refine AL.take 1 (r := ([], ⟨(24, ⟨.arr 17 (.arr 2 i64), limL⟩) :: [(0, ⟨i64, (16 : Int)⟩), (1, ⟨i64, f⟩), (9, ⟨.arr 2 i64, ([1, 1099511627776] : List Int)⟩), (10, ⟨.arr 2 i64, ([1, 1099511627776] : List Int)⟩), (12, ⟨.arr 2 i64, ([0, 15] : List Int)⟩), (13, ⟨.arr 2 i64, ([1, 64] : List Int)⟩), (15, ⟨.arr 2 i64, ([0, 511] : List Int)⟩), (17, ⟨.arr 2 i64, ([0, 511] : List Int)⟩), (18, ⟨.arr 2 i64, ([0, 255] : List Int)⟩), (19, ⟨.arr 2 i64, ([1, 3] : List Int)⟩), (20, ⟨.arr 2 i64, ([0, 1099511627776] : List Int)⟩), (21, ⟨.arr 2 i64, ([0, 2251799813685248] : List Int)⟩), (22, ⟨.arr 2 i64, ([0, 18] : List Int)⟩), (23, ⟨.arr 2 i64, ([1, 4] : List Int)⟩)], [], 0⟩)) hX ltK_ok (by kernel_rfl) trivial ?_
  refine AL.all hX ltK_ok rfl trivial ?_
  refine AWP.fit (σ' := ⟨[(0, ⟨i64, (16 : Int)⟩), (1, ⟨i64, f⟩), (8, ⟨.optr (.arr 17 (.arr 2 i64)), ⟨0, .arr 17 (.arr 2 i64), .here⟩⟩)], [(0, some (.box (.arr 17 (.arr 2 i64)) limL))], 1⟩) ⟨⟨rfl, rfl, rfl, trivial⟩, ⟨rfl, trivial⟩, rfl, rfl⟩ ?_
  (repeat (first | refine AWP.seq ?_ | refine AWP.skip ?_ | refine AWP.block ?_ | refine AWP.exit ?_)); refine AWP.region hX ltK_ok rfl ?_ ?_
  · trivial
  (repeat (first | refine AWP.seq ?_ | refine AWP.skip ?_ | refine AWP.block ?_ | refine AWP.exit ?_)); refine AWP.region hX ltK_ok rfl ?_ ?_
  · trivial
  refine AWP.cond rfl (fun hb => absurd hb (by decide)) (fun _ => ?_)
  (repeat (first | refine AWP.seq ?_ | refine AWP.skip ?_ | refine AWP.block ?_ | refine AWP.exit ?_)); refine AWP.region hX ltK_ok rfl ?_ ?_
  · trivial
  refine AWP.cond rfl (fun hb => absurd hb (by decide)) (fun _ => ?_)
  (repeat (first | refine AWP.seq ?_ | refine AWP.skip ?_ | refine AWP.block ?_ | refine AWP.exit ?_)); refine AWP.region hX ltK_ok rfl ?_ ?_
  · trivial
  refine AWP.cond rfl (fun hb => absurd hb (by decide)) (fun _ => ?_)
  (repeat (first | refine AWP.seq ?_ | refine AWP.skip ?_ | refine AWP.block ?_ | refine AWP.exit ?_)); refine AWP.region hX ltK_ok rfl ?_ ?_
  · trivial
  refine AWP.cond rfl (fun hb => absurd hb (by decide)) (fun _ => ?_)
  (repeat (first | refine AWP.seq ?_ | refine AWP.skip ?_ | refine AWP.block ?_ | refine AWP.exit ?_)); refine AWP.region hX ltK_ok rfl ?_ ?_
  · trivial
  refine AWP.cond rfl (fun hb => absurd hb (by decide)) (fun _ => ?_)
  refine AWP.skip ?_
  refine AWP.frzB hX 8 ?_
  have hf : f = 0 ∨ f = 1 ∨ f = 2 ∨ f = 3 ∨ f = 4 ∨ f = 5 ∨ f = 6 ∨ f = 7 ∨ f = 8 ∨ f = 9 ∨ f = 10 ∨ f = 11 ∨ f = 12 ∨ f = 13 ∨ f = 14 ∨ f = 15 ∨ f = 16 := by omega
  refine AWP.seq ?_
  have h3 : (0 : Int) ≤ f := h0
  have h4 : f < ((17 : Nat) : Int) := h17
  refine AWP.draw dM hX ltK_ok 10 (by kernel_rfl) rfl rfl ?_ ?_ ?_
  · simp only [allP]
    rcases hf with rfl | rfl | rfl | rfl | rfl | rfl | rfl | rfl | rfl | rfl | rfl | rfl | rfl | rfl | rfl | rfl | rfl <;> decide
  · trivial
  refine AWP.ret ⟨.inr rfl, done2 (by decide) rfl rfl trivial ?_⟩
  rcases hf with rfl | rfl | rfl | rfl | rfl | rfl | rfl | rfl | rfl | rfl | rfl | rfl | rfl | rfl | rfl | rfl | rfl <;> rfl
def cIsSrv : Ctr := { args := [i64], pre := fun x => [x.1 = 0 ∨ x.1 = 1], res := .bool, own := none, out := fun _ => true }
theorem isSrv_ok : CtrOk Tryz.prog pG 64 cIsSrv := by
  refine ctr_of_awp (K := ltK) ltK_ok Tryz.func64 rfl rfl Tryz.call64 rfl (by decide) (by intro h; cases h) ?_
  rintro w0 X hX ⟨(k : Int), ⟨⟩⟩ hk
  have hk : k = 0 ∨ k = 1 := hk
  change AWP _ _ _ _ _ ⟨[(0, ⟨i64, k⟩)], [], 0⟩ _
  rcases hk with rfl | rfl
  all_goals
    (repeat (first | refine AWP.seq ?_ | refine AWP.skip ?_ | refine AWP.block ?_ | refine AWP.exit ?_)); refine AWP.region hX ltK_ok rfl ?_ ?_
    · trivial
    (repeat (first | refine AWP.seq ?_ | refine AWP.skip ?_ | refine AWP.block ?_ | refine AWP.exit ?_)); refine AWP.region hX ltK_ok rfl ?_ ?_
    · simp only [allP]; decide
    exact AWP.ret ⟨.inr rfl, done1 rfl trivial rfl rfl (by rfl)⟩
end Go.Proofs.YtbbeldmcdjjnbaaGreatDoor
namespace Go.Proofs.YtbbeldmcdjjnbaaGreatDoor
open Go Go.RowKit
set_option linter.unusedSimpArgs false
set_option linter.unusedVariables false
set_option maxRecDepth 100000
abbrev pw (g k : Nat) : Value := .pointer (some ⟨g, k, none⟩)
def nmV (g o : Nat) : Value := .agg #[pw g (o + 3), pw g (o + 4), pw g (o + 5), pw g (o + 6), pw g (o + 7), pw g (o + 8), pw g (o + 9), pw g (o + 10), pw g (o + 11), .pointer none, .pointer none, pw g (o + 24), pw g (o + 25), pw g (o + 26), .pointer none, .pointer none, .pointer none]
theorem res_num (tm : Array Value) {b : Nat} {g off : Nat} {W : World} (h : tm.getD 2 undef = .pointer (some ⟨b, 0, none⟩)) (hld : (Go.loadVar 118 ⟨b, 0, none⟩).run Tryz.prog W = .ok (nmV g off) W) : (results Tryz.f56 tm).run Tryz.prog W = .ok (nmV g off) W := by
  rw [results_eq]
  have hm : (Tryz.f56.results.mapM (resM tm)).run Tryz.prog W = .ok #[nmV g off] W := by
    rw [Array.mapM_eq_mapM_toList, show Tryz.f56.results.toList = [.cell 2 118] from rfl]
    simp [resM, h, asAddr, hld]
  rw [Sem.run_bind, hm]
  simp
set_option maxHeartbeats 4000000 in
theorem numbers_call (g off : Nat) (w : World) :
    Calls Tryz.prog 56 #[.pointer (some ⟨g, off, none⟩)] w fun e w' => e = .returned (nmV g off) ∧ Below w.heap.size w w' := by
  go_enter Tryz.func56, Tryz.ntmps56
  go_wp2
  obtain ⟨W1, hW1⟩ : ∃ W1, W1 = w.alloc (.cells (Array.replicate 17 (.pointer none)) 118 (0, 0)) := ⟨_, rfl⟩
  have hb1 : Below w.heap.size w W1 := by rw [hW1]; exact (Below.refl _ w).alloc (Nat.le_refl _) _
  have hc1 : W1.heap[w.heap.size]? = some (.cells (Array.replicate 17 (.pointer none)) 118 (0, 0)) := by rw [hW1]; exact World.alloc_heap_new _ _
  have hs1 : W1.heap.size = w.heap.size + 1 := by rw [hW1]; simp
  change Code.wp _ _ _ _ (w.alloc (.cells (Array.replicate 17 (.pointer none)) 118 (0, 0)))
  rw [← hW1]
  clear hW1
  go_still_tail 37, (by kernel_rfl)
  change wpList _ _ _ _ _ W1.drew
  have hb2 : Below w.heap.size w W1.drew := hb1.drew
  have hc2 : W1.drew.heap[w.heap.size]? = some (.cells (Array.replicate 17 (.pointer none)) 118 (0, 0)) := hc1
  generalize W1.drew = W2 at hb2 hc2
  have hrun : (Instr.storeAt 118 (.pointer (some ⟨w.heap.size, 0, none⟩)) (nmV g off)).run Tryz.prog W2 = .ok () (W2.setRow w.heap.size (over (List.replicate 17 (.pointer none)) 0 (nmV g off).cells.toList).toArray) := by
    have hrun := run_storeCells_at Tryz.prog w.heap.size 0 118 (nmV g off).cells.toList 0 (List.replicate 17 (.pointer none)).toArray W2 (by rw [hc2]; rfl) (by simp [nmV, Value.cells]) (by simp [nmV, Value.cells, Value.oneCell'])
    simp only [Nat.add_zero] at hrun
    unfold Instr.storeAt Instr.sureAddr storeVar
    have hz : (sizeOf 118).run Tryz.prog W2 = .ok 17 W2 := by simp [go_sem]
    simp only [Sem.run_bind, Sem.run_pure, Result.andThen_ok, hz]
    rw [if_neg (by simp [nmV, Value.cells])]
    exact hrun
  have hst : ∀ (ev : Operand → Value) (o : Oper), o.op = .store 118 (.tmp 2) (.tmp 39) → ev (.tmp 2) = .pointer (some ⟨w.heap.size, 0, none⟩) → ev (.tmp 39) = nmV g off → (execOp ev o).run Tryz.prog W2 = .ok .skip (W2.setRow w.heap.size (over (List.replicate 17 (.pointer none)) 0 (nmV g off).cells.toList).toArray) := fun ev o ho h1 h2 => by
    unfold execOp
    simp only [ho]
    rw [h1, h2]
    simp [hrun]
  refine .inl ?_
  unfold Oper.wp
  rw [hst _ _ rfl rfl rfl]
  have hb3 : Below w.heap.size w (W2.setRow w.heap.size (over (List.replicate 17 (.pointer none)) 0 (nmV g off).cells.toList).toArray) := hb2.grown (grownBy_row W2 w.heap.size _) hb2.size (fun k e => by cases e; exact Nat.le_refl _)
  have hc3 := setRow_heap W2 w.heap.size (List.replicate 17 (.pointer none)).toArray (over (List.replicate 17 (.pointer none)) 0 (nmV g off).cells.toList).toArray 118 (0, 0) (by rw [hc2]; rfl)
  generalize W2.setRow w.heap.size (over (List.replicate 17 (.pointer none)) 0 (nmV g off).cells.toList).toArray = W3 at hb3 hc3
  have hov : (over (List.replicate 17 (.pointer none)) 0 (nmV g off).cells.toList).toArray = (nmV g off).cells := rfl
  rename_i K hK
  refine hK _ _ (wp_ret ?_)
  refine ⟨rfl, nmV g off, ?_, rfl, hb3⟩
  have hld : (Go.loadVar 118 ⟨w.heap.size, 0, none⟩).run Tryz.prog W3 = .ok (nmV g off) W3 :=
    run_loadVar_row W3 w.heap.size 118 118 (nmV g off).cells (0, 0) (.array 17 117) hc3 (by kernel_rfl) rfl (by rw [show (nmV g off).cells.size = 17 from rfl]; kernel_rfl)
  exact res_num _ rfl hld
theorem fieldC {w : World} {O : Nat → Prop} : ∀ (n : Nat) (τ : Ty) (x : τ.T) (v : V) (cs : List Value), fieldV n τ x = some v → RepC w O τ x cs → RepC w O v.t v.x ((cs.drop (fieldOff n τ)).take v.t.size) := by
  intro n
  induction n with
  | zero =>
    intro τ x v cs h hr
    cases τ with
    | pair a b =>
      cases h
      obtain ⟨c1, c2, rfl, h5, h6⟩ := hr
      have := RepC.len _ _ _ h5
      simp [fieldOff, ← this, h5]
    | _ => cases h
  | succ n ih =>
    intro τ x v cs h hr
    cases τ with
    | pair a b =>
      obtain ⟨c1, c2, rfl, h5, h6⟩ := hr
      have h7 := ih b x.2 v c2 h h6
      have := RepC.len _ _ _ h5
      rw [show fieldOff (n + 1) (.pair a b) = c1.length + fieldOff n b by simp [fieldOff, this], List.drop_length_add_append]
      exact h7
    | _ => cases h
abbrev pI : Ty := .vptr i64
abbrev nvT : Ty := .hcons pI (.hcons pI (.hcons pI (.hcons pI (.hcons pI (.hcons pI (.hcons pI (.hcons pI (.hcons pI (.hcons .lit (.hcons .lit (.hcons pI (.hcons pI (.hcons pI (.hcons .lit (.hcons .lit (.hcons .lit .unit))))))))))))))))
def nvX (l : Lt) : nvT.T := (l.2.2.2.1, (l.2.2.2.2.1, (l.2.2.2.2.2.1, (l.2.2.2.2.2.2.1, (l.2.2.2.2.2.2.2.1, (l.2.2.2.2.2.2.2.2.1, (l.2.2.2.2.2.2.2.2.2.1, (l.2.2.2.2.2.2.2.2.2.2.1, (l.2.2.2.2.2.2.2.2.2.2.2.1, (Value.pointer none, (Value.pointer none, (l.2.2.2.2.2.2.2.2.2.2.2.2.2.2.1, (l.2.2.2.2.2.2.2.2.2.2.2.2.2.2.2.1, (l.2.2.2.2.2.2.2.2.2.2.2.2.2.2.2.2.1, (Value.pointer none, (Value.pointer none, (Value.pointer none, ())))))))))))))))))
theorem numbers_rep {w : World} {O : Nat → Prop} {β : Nat → Value} {l : Lt} {g off : Nat} {cs : List Value} (hl : g < w.heap.size) (hn : ¬ O g) (hr : RepC w O lt l cs) (hc : CellsAt w g off cs) : RepV w O β nvT (nvX l) (nmV g off) :=
  ⟨_, _, rfl, rfl, ⟨g, off + 3, (cs.drop 3).take 1, rfl, hl, hn, fieldC 3 lt l ⟨i64, l.2.2.2.1⟩ cs rfl hr, (hc.drop 3).take 1⟩, ⟨_, _, rfl, rfl, ⟨g, off + 4, (cs.drop 4).take 1, rfl, hl, hn, fieldC 4 lt l ⟨i64, l.2.2.2.2.1⟩ cs rfl hr, (hc.drop 4).take 1⟩, ⟨_, _, rfl, rfl, ⟨g, off + 5, (cs.drop 5).take 1, rfl, hl, hn, fieldC 5 lt l ⟨i64, l.2.2.2.2.2.1⟩ cs rfl hr, (hc.drop 5).take 1⟩, ⟨_, _, rfl, rfl, ⟨g, off + 6, (cs.drop 6).take 1, rfl, hl, hn, fieldC 6 lt l ⟨i64, l.2.2.2.2.2.2.1⟩ cs rfl hr, (hc.drop 6).take 1⟩, ⟨_, _, rfl, rfl, ⟨g, off + 7, (cs.drop 7).take 1, rfl, hl, hn, fieldC 7 lt l ⟨i64, l.2.2.2.2.2.2.2.1⟩ cs rfl hr, (hc.drop 7).take 1⟩, ⟨_, _, rfl, rfl, ⟨g, off + 8, (cs.drop 8).take 1, rfl, hl, hn, fieldC 8 lt l ⟨i64, l.2.2.2.2.2.2.2.2.1⟩ cs rfl hr, (hc.drop 8).take 1⟩, ⟨_, _, rfl, rfl, ⟨g, off + 9, (cs.drop 9).take 1, rfl, hl, hn, fieldC 9 lt l ⟨i64, l.2.2.2.2.2.2.2.2.2.1⟩ cs rfl hr, (hc.drop 9).take 1⟩, ⟨_, _, rfl, rfl, ⟨g, off + 10, (cs.drop 10).take 1, rfl, hl, hn, fieldC 10 lt l ⟨i64, l.2.2.2.2.2.2.2.2.2.2.1⟩ cs rfl hr, (hc.drop 10).take 1⟩, ⟨_, _, rfl, rfl, ⟨g, off + 11, (cs.drop 11).take 1, rfl, hl, hn, fieldC 11 lt l ⟨i64, l.2.2.2.2.2.2.2.2.2.2.2.1⟩ cs rfl hr, (hc.drop 11).take 1⟩, ⟨_, _, rfl, rfl, rfl, ⟨_, _, rfl, rfl, rfl, ⟨_, _, rfl, rfl, ⟨g, off + 24, (cs.drop 24).take 1, rfl, hl, hn, fieldC 14 lt l ⟨i64, l.2.2.2.2.2.2.2.2.2.2.2.2.2.2.1⟩ cs rfl hr, (hc.drop 24).take 1⟩, ⟨_, _, rfl, rfl, ⟨g, off + 25, (cs.drop 25).take 1, rfl, hl, hn, fieldC 15 lt l ⟨i64, l.2.2.2.2.2.2.2.2.2.2.2.2.2.2.2.1⟩ cs rfl hr, (hc.drop 25).take 1⟩, ⟨_, _, rfl, rfl, ⟨g, off + 26, (cs.drop 26).take 1, rfl, hl, hn, fieldC 16 lt l ⟨i64, l.2.2.2.2.2.2.2.2.2.2.2.2.2.2.2.2.1⟩ cs rfl hr, (hc.drop 26).take 1⟩, ⟨_, _, rfl, rfl, rfl, ⟨_, _, rfl, rfl, rfl, ⟨_, _, rfl, rfl, rfl, (RepD.agg (t := .unit) rfl).2 ⟨[], rfl, rfl⟩⟩⟩⟩⟩⟩⟩⟩⟩⟩⟩⟩⟩⟩⟩⟩⟩⟩
theorem ptrArr : PtrArr Tryz.prog 118 17 := by
  intro cs k c w ev o x i hl hk ho hx hi
  have hkl := (List.getElem?_eq_some_iff.1 hk).1
  unfold execOp
  simp only [ho, hx, hi]
  have hi0 : (0 : Int) ≤ (k : Int) := Int.natCast_nonneg _
  have hc : cs.toArray[k]? = some c := by simpa using hk
  have hu : ∀ w, (Go.underlying 118).run Tryz.prog w = .ok (.array 17 117) w := run_underlying (by kernel_rfl)
  have ha : ∀ w, (Go.isAgg 117).run Tryz.prog w = .ok false w := fun w => by simp [go_sem]
  have hz : ∀ w, (sizeOf 117).run Tryz.prog w = .ok 1 w := fun w => by simp [go_sem]
  have h17 : (0 : Int) ≤ (k : Int) ∧ (k : Int) < ((17 : Nat) : Int) := ⟨hi0, by omega⟩
  have hrun : (Instr.index 118 (.agg cs.toArray) (.int .i64 (k : Int))).run Tryz.prog w = .ok c w := by
    unfold Instr.index
    simp only [Sem.run_bind, asIntOf, Sem.run_pure, Result.andThen_ok, hu]
    rw [if_pos h17]
    simp only [Sem.run_bind, hz, Result.andThen_ok, Int.toNat_natCast, Nat.mul_one]
    unfold Go.part
    simp [ha, hk]
  exact run_v hrun
theorem ptrEq : PtrEq Tryz.prog 117 := by
  intro w ev o x op t2 b hop ho hcst
  constructor
  · intro hx
    rcases hop with ⟨rfl, rfl⟩ | ⟨rfl, rfl⟩ <;> (unfold execOp; simp [ho, hx, hcst, go_sem])
  · intro A hx
    rcases hop with ⟨rfl, rfl⟩ | ⟨rfl, rfl⟩ <;> (unfold execOp; simp [ho, hx, hcst, go_sem])
end Go.Proofs.YtbbeldmcdjjnbaaGreatDoor
