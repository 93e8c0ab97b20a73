/-
  strings.Index at a text of one byte; strings.SplitSeq at one byte, and its iterator.
-/
import Derived.Test.YthkhgpbjfcmopaaGreatDoorPPrgJ
import Derived.Test.YthkhgpbjfcmopaaGreatDoorAbsRound
import Derived.LoopIn
namespace Go.Proofs.YthkhgpbjfcmopaaGreatDoor
open Go Go.RowKit
set_option linter.unusedSimpArgs false
set_option linter.unusedVariables false
set_option linter.unusedSimpArgs false
set_option linter.unusedVariables false
attribute [local go_sem] Oper.semAt_some
set_option maxRecDepth 100000
set_option maxHeartbeats 1000000 in
theorem sIndex_call (s : ByteArray) (c : UInt8) (w : World) :
    Calls Tryz.prog 135 #[.string s, .string ⟨#[c]⟩] w fun e w' => e = .returned (.int .i64 (Lib.indexByte s.data.toList c)) ∧ w' = w := by
  go_enter Tryz.func135, Tryz.ntmps135
  go_wp2_with (go_at_call 114; refine (liteIndex_call s _ _).mono ?_; rintro e w' ⟨rfl, rfl⟩)
  · rename_i hs
    go_ret
    rw [ByteArray.toList_eq] at hs
    have hs := eq_of_beq hs
    refine ⟨?_, rfl⟩
    rw [← hs]
    show Ending.returned (.int .i64 0) = Ending.returned (.int .i64 (Lib.indexByte [c] c))
    unfold Lib.indexByte
    rw [if_pos (by simp)]
  · go_ret
    exact ⟨rfl, rfl⟩
set_option maxHeartbeats 1000000 in
theorem strIndex_call (s : ByteArray) (c : UInt8) (w : World) :
    Calls Tryz.prog 113 #[.string s, .string ⟨#[c]⟩] w fun e w' => e = .returned (.int .i64 (Lib.indexByte s.data.toList c)) ∧ w' = w := by
  go_enter Tryz.func113, Tryz.ntmps113
  go_wp2_with (go_at_call 135; refine (sIndex_call s c _).mono ?_; rintro e w' ⟨rfl, rfl⟩)
  go_ret
  exact ⟨rfl, rfl⟩
/-- the function literal that goes over the parts, and its three variables -/
def itV (w : World) : Value := .func (.func 111) #[] #[.pointer (some ⟨w.heap.size + 1, 0, none⟩), .pointer (some ⟨w.heap.size, 0, none⟩), .pointer (some ⟨w.heap.size + 1 + 1, 0, none⟩)]
def itW (w : World) (s p : ByteArray) : World := ((w.alloc (.cells #[.string s] 9)).alloc (.cells #[.string p] 9)).alloc (.cells #[.int .i64 0] 3)
set_option maxHeartbeats 1000000 in
theorem splitSeq0_call (s p : ByteArray) (w : World) : Calls Tryz.prog 93 #[.string s, .string p, .int .i64 0] w fun e w' => e = .returned (itV w) ∧ w' = itW w s p := by
  go_enter Tryz.func93, Tryz.ntmps93
  go_wp2
  go_ret
  refine ⟨?_, rfl⟩
  unfold itV
  simp
set_option maxHeartbeats 1000000 in
theorem splitSeq_call (s p : ByteArray) (w : World) : Calls Tryz.prog 62 #[.string s, .string p] w fun e w' => e = .returned (itV w) ∧ w' = itW w s p := by
  go_enter Tryz.func62, Tryz.ntmps62
  go_wp2_with (go_at_call 93; refine (splitSeq0_call s p _).mono ?_; rintro e w' ⟨rfl, rfl⟩)
  go_ret
  exact ⟨rfl, rfl⟩
theorem segF_word (p : List UInt8) (hp : ∀ x ∈ p, x ≠ 10) (r : List UInt8) : ∀ (c : List UInt8), segF c (p ++ r) = segF (c ++ p) r := by
  induction p with
  | nil => intro c; rw [List.append_nil]; rfl
  | cons x p ih =>
    intro c
    rw [List.cons_append]
    show (if x = 10 then _ else _) = _
    rw [if_neg (hp x (List.mem_cons_self ..)), ih (fun y hy => hp y (List.mem_cons_of_mem _ hy)), List.append_assoc]
    rfl
theorem segs_last {l : List UInt8} (h : ∀ x ∈ l, x ≠ 10) : segs l = [l] := by
  have := segF_word l h [] []
  rw [List.append_nil, List.nil_append] at this
  exact this
theorem segs_next {l : List UInt8} {n : Nat} (h : ∀ x ∈ l.take n, x ≠ 10) (hd : l.drop n = 10 :: l.drop (n + 1)) : segs l = l.take n :: segs (l.drop (n + 1)) := by
  have := segF_word (l.take n) h (l.drop n) []
  rw [List.take_append_drop, List.nil_append, hd] at this
  exact this.trans (if_pos rfl)
theorem ba_take (l : List UInt8) (n : Nat) : (ByteArray.mk l.toArray).extract 0 n = ⟨(l.take n).toArray⟩ := by
  apply ByteArray.ext
  rw [ByteArray.data_extract]
  simp
theorem ba_drop (l : List UInt8) (n : Nat) : (ByteArray.mk l.toArray).extract n l.length = ⟨(l.drop n).toArray⟩ := by
  apply ByteArray.ext
  rw [ByteArray.data_extract]
  simp
  exact List.take_of_length_le (by rw [List.length_drop]; exact Nat.le_refl _)
theorem setCell_blk {W : World} {B : Nat} {v : Value} {t : TypeId} (v' : Value) (h : W.heap[B]? = some (.cells #[v] t (0, 0))) : (W.setCell ⟨B, 0, none⟩ v').heap[B]? = some (.cells #[v'] t (0, 0)) := by
  obtain ⟨hlt, hk⟩ := Array.getElem?_eq_some_iff.1 h
  show (W.heap.modify B _)[B]? = _
  rw [Array.getElem?_eq_getElem (by rw [Array.size_modify]; exact hlt), Array.getElem_modify_self, hk]
  rfl
/-- the blocks of the iterator's own -/
def itI (gs gp gv : Nat) (g : Nat) : Prop := g = gs ∨ g = gp ∨ g = gv
theorem cell_of_blk {W : World} {B : Nat} {v : Value} {t : TypeId} (h : W.heap[B]? = some (.cells #[v] t (0, 0))) : W.cell? ⟨B, 0, none⟩ = some v ∧ W.frozen? ⟨B, 0, none⟩ = false := by
  constructor <;> simp [World.cell?, World.frozen?, h]
theorem kept_setCell {R : Nat → Prop} (W : World) (g : Nat) (v : Value) (hR : R g) : Kept R W (W.setCell ⟨g, 0, none⟩ v) :=
  ⟨rfl, rfl, rfl, by simp [World.setCell], fun k _ hn => Below.heap_setCell W ⟨g, 0, none⟩ v k fun e => hn (by rw [e]; exact hR)⟩
noncomputable def itLeft (gs : Nat) (W : World) : Nat := match W.cell? ⟨gs, 0, none⟩ with | some (.string s) => s.size | _ => 0
set_option maxHeartbeats 2000000 in
theorem splitIt_in (l gs gp gv : Nat) (s : List UInt8) (J : Nat → World → Prop) (Jp : List PanicEntry → World → Prop) (W : World) (hne : gs ≠ gp ∧ gs ≠ gv) (hlen : s.length ≤ 100000)
    (hs : W.heap[gs]? = some (.cells #[.string ⟨s.toArray⟩] 9 (0, 0))) (hp : W.heap[gp]? = some (.cells #[.string ⟨#[10]⟩] 9 (0, 0))) (hv : W.heap[gv]? = some (.cells #[.int .i64 0] 3 (0, 0)))
    (hJ : ∀ k A C, J k A → Kept (itI gs gp gv) A C → J k C)
    (hY : ∀ k y W1, J k W1 → (segs s)[k]? = some y → W.heap.size ≤ W1.heap.size → YieldAt Fence.wide 0 Tryz.prog l #[.string ⟨y.toArray⟩] W1 fun e W' => (e = .returned (.bool true) ∧ J (k + 1) W' ∧ SameOn (itI gs gp gv) W.heap.size W1 W') ∨ ∃ ch, e = .panicked ch ∧ Jp ch W')
    (h0 : J 0 W) :
    CallsIn Fence.wide 1 Tryz.prog 111 #[.func (.yield l) #[] #[], .pointer (some ⟨gp, 0, none⟩), .pointer (some ⟨gs, 0, none⟩), .pointer (some ⟨gv, 0, none⟩)] W fun e W' => ((∃ v, e = .returned v) ∧ J (segs s).length W') ∨ ∃ ch, e = .panicked ch ∧ Jp ch W' := by
  refine callsIn_of_wp Tryz.func111 rfl trivial ?_ rfl
  have c1 := (cell_of_blk hp).1
  have c2 := cell_of_blk hs
  simp only [Tryz.ntmps111, List.size_toArray, List.length_cons, List.length_nil, Nat.reduceAdd, Nat.reduceSub, Array.replicate_succ, Array.replicate_zero, List.push_toArray, List.append_toArray, List.nil_append, List.cons_append]
  gi_wp2
  gi_loopw [7] (fun p wr => ∃ (pre : List (List UInt8)) (rest : List UInt8), segs s = pre ++ segs rest ∧ rest.length ≤ s.length ∧ wr.heap[gs]? = some (.cells #[.string ⟨rest.toArray⟩] 9 (0, 0)) ∧ wr.heap[gp]? = some (.cells #[.string ⟨#[10]⟩] 9 (0, 0)) ∧ wr.heap[gv]? = some (.cells #[.int .i64 0] 3 (0, 0)) ∧ J pre.length wr ∧ W.heap.size ≤ wr.heap.size)
    (fun p wr => itLeft gs wr)
  case atStart => exact ⟨[], s, rfl, Nat.le_refl _, hs, hp, hv, h0, Nat.le_refl _⟩
  case round =>
    obtain ⟨pre, rest, hsg, hrl, hs', hp', hv', hj, hsz⟩ := hrel
    have d1 := (cell_of_blk hp').1
    have d2 := cell_of_blk hs'
    have d3 := (cell_of_blk hv').1
    gi_wp2
    refine ⟨trivial, (callsIn_wide.2 (strIndex_call _ _ _)).mono ?_⟩
    rintro e w' ⟨rfl, rfl⟩
    have hix : Lib.indexByte (ByteArray.mk rest.toArray).data.toList 10 = Lib.indexByte rest 10 := rfl
    rw [hix]
    rcases ix_spec rest 10 with ⟨h1, h2⟩ | ⟨n, h1, h2, h3, h4⟩
    · rw [h1]
      have hseg := segs_last h2
      rw [hseg] at hsg
      obtain ⟨fn, tmps, assign, body, hy, hR⟩ := hY pre.length rest _ hj (by rw [hsg]; simp) hsz
      gi_wp2
      refine hR.mono ?_
      rintro e W3 (⟨rfl, hJ3, hk3⟩ | ⟨ch, rfl, hp3⟩)
      · gi_wp2
        go_end0
        refine .inl ⟨⟨_, rfl⟩, ?_⟩
        rw [hsg, List.length_append]
        exact hJ3
      · gi_wp2
        exact ⟨rfl, .inr ⟨ch, rfl, hp3⟩⟩
    · rw [h1]
      have hseg := segs_next h3 h4
      rw [hseg] at hsg
      have hn0 : ¬ (n : Int) < 0 := by omega
      have hex : (ByteArray.mk rest.toArray).extract 0 n = ⟨(rest.take n).toArray⟩ := ba_take rest n
      have hex2 : (ByteArray.mk rest.toArray).extract (n + 1) rest.length = ⟨(rest.drop (n + 1)).toArray⟩ := ba_drop rest (n + 1)
      have hnl : n < rest.length := h2
      obtain ⟨fn, tmps, assign, body, hy, hR⟩ := hY pre.length (rest.take n) _ hj (by rw [hsg]; simp) hsz
      gi_wp2
      refine hR.mono ?_
      rintro e W3 (⟨rfl, hJ3, hk3⟩ | ⟨ch, rfl, hp3⟩)
      · have e1 := (hk3.block gs (.inl rfl)).trans hs'
        have e2 := (hk3.block gp (.inr (.inl rfl))).trans hp'
        have e3 := (hk3.block gv (.inr (.inr rfl))).trans hv'
        have f1 := (cell_of_blk e2).1
        have f2 := cell_of_blk e1
        gi_wp2
        have g1 := setCell_blk (.string ⟨(rest.drop (n + 1)).toArray⟩) e1
        refine ⟨⟨pre ++ [rest.take n], rest.drop (n + 1), by rw [hsg, List.append_assoc]; rfl, by rw [List.length_drop]; omega, g1, (Below.heap_setCell W3 ⟨gs, 0, none⟩ _ gp fun e => hne.1 e.symm).trans e2, (Below.heap_setCell W3 ⟨gs, 0, none⟩ _ gv fun e => hne.2 e.symm).trans e3, ?_, ?_⟩, ?_⟩
        · rw [List.length_append, List.length_singleton]
          exact hJ _ _ _ hJ3 (kept_setCell W3 gs _ (.inl rfl))
        · exact Nat.le_trans hk3.size (kept_setCell (R := itI gs gp gv) W3 gs _ (.inl rfl)).size
        · unfold itLeft
          rw [(cell_of_blk g1).1, d2.1]
          show (rest.drop (n + 1)).toArray.size < rest.toArray.size
          simp
          omega
      · gi_wp2
        exact ⟨rfl, .inr ⟨ch, rfl, hp3⟩⟩
/-- the iterator hands out the parts -/
theorem splitIt_seq (gs gp gv : Nat) (s : List UInt8) (w : World) (hne : gs ≠ gp ∧ gs ≠ gv) (hlen : s.length ≤ 100000)
    (hs : w.heap[gs]? = some (.cells #[.string ⟨s.toArray⟩] 9 (0, 0))) (hp : w.heap[gp]? = some (.cells #[.string ⟨#[10]⟩] 9 (0, 0))) (hv : w.heap[gv]? = some (.cells #[.int .i64 0] 3 (0, 0))) :
    SeqPan Tryz.prog 1 111 #[.pointer (some ⟨gp, 0, none⟩), .pointer (some ⟨gs, 0, none⟩), .pointer (some ⟨gv, 0, none⟩)] (itI gs gp gv) (segs s) w := fun l J Jp W hW hJ hY h0 =>
  splitIt_in l gs gp gv s J Jp W hne hlen ((hW.block _ (Array.getElem?_eq_some_iff.1 hs).1).trans hs) ((hW.block _ (Array.getElem?_eq_some_iff.1 hp).1).trans hp) ((hW.block _ (Array.getElem?_eq_some_iff.1 hv).1).trans hv) hJ hY h0
end Go.Proofs.YthkhgpbjfcmopaaGreatDoor
