/-
  Package journal, third part: Records.
-/
import Derived.Test.YthhphphdbgkdgaaDoorJPrgB
import Derived.Test.YthhphphdbgkdgaaDoorAbsMore
namespace Go.Proofs.YthhphphdbgkdgaaDoor
open Go Go.RowKit
set_option linter.unusedSimpArgs false
set_option linter.unusedVariables false
set_option maxRecDepth 100000
def cRecords : Ctr := { args := [jl], pre := fun x => [List.length x.1.1 ≤ 1100000], res := .tup (.slice bs) (.tup i64 (.tup i64 .unit)), own := none, out := fun x => recordsS x.1 }
theorem recs_count (b : List UInt8) : (recs b).1.length ≤ b.length := by
  have h := recs_len b
  have hle := recs_le b
  have key : ∀ l : List (List UInt8), l.length ≤ (cat l).length := by
    intro l
    induction l with
    | nil => exact Nat.le_refl _
    | cons x l ih => rw [cat_cons, List.length_append, rcd_length, List.length_cons]; omega
  have := key (recs b).1
  omega
theorem vSs {x y : List (List UInt8)} (h : x = y) : (⟨.slice bs, x⟩ : V) = ⟨.slice bs, y⟩ := by rw [h]
theorem mem_flat {l : List (List UInt8)} {x : List UInt8} (h : x ∈ l) : x.length ≤ (cat l).length := by
  induction l with
  | nil => cases h
  | cons y l ih =>
    rw [cat_cons, List.length_append, rcd_length]
    rcases List.mem_cons.1 h with rfl | h
    · omega
    · have := ih h
      omega
theorem records_ok : CtrOk Tryd.prog dG 7 cRecords := by
  refine ctr_of_awp (K := kJ) kJ_ok Tryd.func7 rfl rfl Tryd.call7 rfl (by decide) (by intro h; cases h) ?_
  rintro w0 X hX ⟨(l : Lg), _⟩ hp
  change AWP _ _ _ _ _ ⟨[(0, ⟨jl, l⟩)], [], 0⟩ _
  have p1 : l.1.length ≤ 1100000 := hp
  have hle := recs_le l.1
  have hcnt := recs_count l.1
  have hsz := recs_len l.1
  (repeat (first | refine AWP.seq ?_ | refine AWP.skip ?_ | refine AWP.block ?_ | refine AWP.exit ?_)); refine AWP.region hX kJ_ok rfl ?_ ?_
  · trivial
  (repeat (first | refine AWP.seq ?_ | refine AWP.skip ?_ | refine AWP.block ?_ | refine AWP.exit ?_)); refine AWP.region hX kJ_ok rfl ?_ ?_
  · trivial
  refine AWP.cond rfl (fun hb => ?_) (fun hb => ?_)
  · have hb : (!validL l) = true := hb
    have hv : ¬ validL l = true := by simpa using hb
    (repeat (first | refine AWP.seq ?_ | refine AWP.skip ?_ | refine AWP.label ?_ | refine AWP.exit ?_ | refine AWP.block ?_ | refine AWP.region hX kJ_ok rfl trivial ?_ | refine AWP.region hX kJ_ok rfl id ?_ | refine AWP.region hX kJ_ok rfl ⟨id, id⟩ ?_))
    refine AWP.ret ⟨.inr rfl, done2 (by decide) rfl rfl trivial ?_⟩
    show (([] : List (List UInt8)), (0 : Int), (1 : Int), ()) = recordsS l
    unfold recordsS
    rw [if_neg hv]
  have hb : (!validL l) = false := hb
  have hv : validL l = true := by simpa using hb
  (repeat (first | refine AWP.seq ?_ | refine AWP.skip ?_ | refine AWP.block ?_ | refine AWP.exit ?_)); refine AWP.region hX kJ_ok rfl ?_ ?_
  · exact p1
  obtain ⟨fs, hfs⟩ : ∃ fs, (recs l.1).1 = fs := ⟨_, rfl⟩
  obtain ⟨m, hm⟩ : ∃ m, (recs l.1).2 = m := ⟨_, rfl⟩
  have hbig : ∀ x ∈ fs, x.length ≤ 1100000 := fun x hx => by
    have := mem_flat hx
    rw [hfs] at hsz
    omega
  rw [hfs] at hcnt
  refine AWP.fit (σ' := ⟨[(5, ⟨.slice bs, fs⟩), (6, ⟨i64, (m : Int)⟩)], [], 1⟩) ⟨⟨vSs hfs, vI64 (congrArg (fun n : Nat => (n : Int)) hm), trivial⟩, trivial, rfl, rfl⟩ ?_
  (repeat (first | refine AWP.seq ?_ | refine AWP.skip ?_ | refine AWP.block ?_ | refine AWP.exit ?_)); refine AWP.region hX kJ_ok rfl ?_ ?_
  · exact ⟨by show (0 : Int) ≤ (fs.length : Nat); omega, Int.le_refl _, by show ((fs.length : Nat) : Int) ≤ 1000000000; omega⟩
  (repeat (first | refine AWP.seq ?_ | refine AWP.skip ?_ | refine AWP.label ?_ | refine AWP.exit ?_ | refine AWP.block ?_ | refine AWP.region hX kJ_ok rfl trivial ?_ | refine AWP.region hX kJ_ok rfl id ?_ | refine AWP.region hX kJ_ok rfl ⟨id, id⟩ ?_))
  refine AWP.loop (ι := Nat) (fun k => ⟨[(6, ⟨i64, (m : Int)⟩), (7, ⟨.obuf bs, (1 : Nat)⟩), (22, ⟨.slice bs, fs⟩), (23, ⟨i64, ((fs.length : Nat) : Int)⟩), (24, ⟨i64, (k : Int)⟩)], [(1, some (.buf 27 bs (fs.take k ++ List.replicate (fs.length - k) [])))], 2⟩) (fun k => k ≤ fs.length) (fun k => fs.length - k) 0 (by omega) ⟨⟨rfl, rfl, rfl, rfl, rfl, trivial⟩, ⟨bufEq (by simp [zeroX]), trivial⟩, rfl, rfl⟩ ?_
  intro k hk
  (repeat (first | refine AWP.seq ?_ | refine AWP.skip ?_ | refine AWP.block ?_ | refine AWP.exit ?_)); refine AWP.region hX kJ_ok rfl ?_ ?_
  · trivial
  refine AWP.seq ?_
  refine AWP.cond rfl (fun hb => ?_) (fun hb => ?_)
  · have hb : decide ((k : Int) < (fs.length : Nat)) = true := hb
    have hb := of_decide_eq_true hb
    have hlt : k < fs.length := by omega
    have hlen : (fs.take k ++ List.replicate (fs.length - k) ([] : List UInt8)).length = fs.length := by simp; omega
    (repeat (first | refine AWP.seq ?_ | refine AWP.skip ?_ | refine AWP.block ?_ | refine AWP.exit ?_)); refine AWP.region hX kJ_ok rfl ?_ ?_
    · exact ⟨by omega, by show (k : Int) < (fs.length : Nat); omega⟩
    have hmem : fs.getD k [] ∈ fs := by rw [List.getD_eq_getElem?_getD, List.getElem?_eq_getElem hlt]; exact List.getElem_mem _
    have hyl := hbig _ hmem
    obtain ⟨y, hy⟩ : ∃ y, fs.getD k [] = y := ⟨_, rfl⟩
    rw [hy] at hyl
    refine AWP.fit (σ' := ⟨[(6, ⟨i64, (m : Int)⟩), (7, ⟨.obuf bs, (1 : Nat)⟩), (8, ⟨i64, (k : Int)⟩), (9, ⟨bs, y⟩), (22, ⟨.slice bs, fs⟩), (23, ⟨i64, ((fs.length : Nat) : Int)⟩), (24, ⟨i64, (k : Int)⟩)], [(1, some (.buf 27 bs (fs.take k ++ List.replicate (fs.length - k) [])))], 2⟩) ⟨⟨rfl, rfl, rfl, vBs (by rw [← hy, ← Int.toNat_natCast k]; rfl), rfl, rfl, rfl, trivial⟩, ⟨rfl, trivial⟩, rfl, rfl⟩ ?_
    change AWP _ _ _ _ (.seq (.region _ _ _) (.region _ _ _)) _ _
    refine AWP.rowCopy hX kJ_ok rfl rfl rfl ?_ rfl rfl rfl rfl rfl rfl rfl rfl rfl rfl rfl rfl rfl rfl rfl rfl rfl rfl rfl rfl rfl rfl rfl rfl rfl rfl rfl rfl rfl rfl (by decide) ?_ ?_ ?_ ?_ (by decide) (by decide) (by decide) (by decide) (by decide) (by decide) (by decide) (by decide) (by decide) (by decide) (by decide) (by decide) (by decide) ?_
    · exact ⟨by show (0 : Int) ≤ ((y.length : Nat) : Int); omega, Int.le_refl _, by show ((y.length : Nat) : Int) ≤ 1000000000; omega, by show (0 : Int) ≤ (k : Int); omega, (by rw [hlen]; omega : (k : Int) < (((fs.take k ++ List.replicate (fs.length - k) ([] : List UInt8)).length : Nat) : Int))⟩
    · omega
    · rfl
    · rw [hlen]
      show (k : Int).toNat < fs.length
      omega
    · show (List.replicate ((y.length : Nat) : Int).toNat (zeroX u8)).length = y.length
      rw [List.length_replicate, Int.toNat_natCast]
    · (repeat (first | refine AWP.seq ?_ | refine AWP.skip ?_ | refine AWP.block ?_ | refine AWP.exit ?_)); refine AWP.region hX kJ_ok rfl ?_ ?_
      · exact inR_succ (by omega)
      refine ⟨k + 1, by omega, by omega, ⟨rfl, rfl, rfl, rfl, vSucc _, trivial⟩, ⟨bufEq ?_, trivial⟩, rfl, rfl⟩
      show (fs.take k ++ List.replicate (fs.length - k) ([] : List UInt8)).set (k : Int).toNat y = fs.take (k + 1) ++ List.replicate (fs.length - (k + 1)) []
      have ht : (fs.take k).length = k := by rw [List.length_take]; omega
      rw [Int.toNat_natCast, List.set_append_right _ _ (by omega), ht, Nat.sub_self, show fs.length - k = (fs.length - (k + 1)) + 1 by omega, List.replicate_succ, List.set_cons_zero, List.take_succ_eq_append_getElem hlt, List.append_assoc]
      have : fs[k] = y := by rw [← hy, List.getD_eq_getElem?_getD, List.getElem?_eq_getElem hlt]; rfl
      rw [this]
      rfl
  · have hb : decide ((k : Int) < (fs.length : Nat)) = false := hb
    have hb := of_decide_eq_false hb
    have : k = fs.length := by omega
    subst this
    rw [List.take_length, Nat.sub_self, List.replicate_zero, List.append_nil]
    (repeat (first | refine AWP.seq ?_ | refine AWP.skip ?_ | refine AWP.block ?_ | refine AWP.exit ?_)); refine AWP.region hX kJ_ok rfl ?_ ?_
    · trivial
    refine AWP.ret ⟨.inr rfl, done2 (by decide) rfl rfl trivial ?_⟩
    show (fs, (m : Int), (0 : Int), ()) = recordsS l
    unfold recordsS
    rw [if_pos hv, hfs, hm]
end Go.Proofs.YthhphphdbgkdgaaDoor
