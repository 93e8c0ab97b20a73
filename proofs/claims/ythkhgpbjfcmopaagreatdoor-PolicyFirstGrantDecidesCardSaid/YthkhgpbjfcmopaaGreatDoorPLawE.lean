/-
  The first grant decides: the statement.
-/
import Derived.Test.YthkhgpbjfcmopaaGreatDoorPBox
namespace Go.Proofs.YthkhgpbjfcmopaaGreatDoor
open Go Go.RowKit
set_option linter.unusedSimpArgs false
set_option linter.unusedVariables false
set_option maxRecDepth 100000
theorem BCtrOk.lift {P : Program} {f : FuncId} {c : BCtr} (h : BCtrOk P pG f c) : BCtrOk P pH f c := ⟨h.1, fun w O xs vs hO ha hp _ => h.2 w O xs vs hO ha hp trivial⟩
section
variable {P : Program} {w0 : World} {G : World → Prop} {O : Nat → Prop} {n : Nat}
/-- two policies with slices of the call's own, in variables of any numbers -/
def shape (y : who.T) (l m : List Gt) (a b c d nx : Nat) : AS := ⟨[(5, ⟨.optr who, ⟨1, who, .here⟩⟩), (7, ⟨.bool, true⟩), (8, ⟨.hptr, (a, 0)⟩), (9, ⟨.hptr, (b, 0)⟩)], [(1, some (.box who y)), (a, some (.hbox [⟨.obuf gr, c⟩])), (b, some (.hbox [⟨.obuf gr, d⟩])), (c, some (.buf 49 gr l)), (d, some (.buf 49 gr m))], nx⟩
def ren (a b c d : Nat) : Nat → Nat
  | 2 => a
  | 3 => b
  | 4 => c
  | 5 => d
  | j => j
theorem Sim.canon {y : who.T} {l m : List Gt} {a b c d nx : Nat} {β : Nat → Value} {act : Act} {w : World} (h : Sim w0 (Ownr.plain G O) n (shape y l m a b c d nx) β act w) (hn : [1, a, b, c, d].Nodup) : Sim w0 (Ownr.plain G O) n (shape y l m 2 3 4 5 6) (fun j => β (ren a b c d j)) act w := by
  simp only [List.nodup_cons, List.mem_cons, List.not_mem_nil, or_false, not_or, List.nodup_nil, not_false_eq_true, and_true] at hn
  obtain ⟨⟨h1a, h1b, h1c, h1d⟩, ⟨hab, hac, had⟩, ⟨hbc, hbd⟩, hcd⟩ := hn
  have e1 : Owns.get (shape y l m a b c d nx).E 1 = some (.box who y) := rfl
  have ea : Owns.get (shape y l m a b c d nx).E a = some (.hbox [⟨.obuf gr, c⟩]) := by simp only [shape, Owns.get_cons, if_neg h1a, if_true]
  have eb : Owns.get (shape y l m a b c d nx).E b = some (.hbox [⟨.obuf gr, d⟩]) := by simp only [shape, Owns.get_cons, if_neg h1b, if_neg hab, if_true]
  have ec : Owns.get (shape y l m a b c d nx).E c = some (.buf 49 gr l) := by simp only [shape, Owns.get_cons, if_neg h1c, if_neg hac, if_neg hbc, if_true]
  have ed : Owns.get (shape y l m a b c d nx).E d = some (.buf 49 gr m) := by simp only [shape, Owns.get_cons, if_neg h1d, if_neg had, if_neg hbd, if_neg hcd, if_true]
  have hE : ∀ j o, Owns.get (shape y l m a b c d nx).E j = some o → j = 1 ∨ j = a ∨ j = b ∨ j = c ∨ j = d := fun j o ho => by
    simp only [shape, Owns.get_cons] at ho
    repeat' split at ho
    all_goals first | (cases ho; done) | omega
  have hE' : ∀ j o, Owns.get (shape y l m 2 3 4 5 6).E j = some o → j < 6 ∧ j ≠ 0 := fun j o ho => by
    have ho : Owns.get [(1, some (OObj.box who y)), (2, some (.hbox [⟨.obuf gr, 4⟩])), (3, some (.hbox [⟨.obuf gr, 5⟩])), (4, some (.buf 49 gr l)), (5, some (.buf 49 gr m))] j = some o := ho
    simp only [Owns.get_cons] at ho
    repeat' split at ho
    all_goals first | (cases ho; done) | omega
  have key : ∀ j, j < 6 → j ≠ 0 → ∃ o o', Owns.get (shape y l m 2 3 4 5 6).E j = some o' ∧ Owns.get (shape y l m a b c d nx).E (ren a b c d j) = some o ∧ o'.under 6 ∧ ∀ W, OwnRep w W β 0 (β (ren a b c d j)) o → OwnRep w W (fun j => β (ren a b c d j)) 0 (β (ren a b c d j)) o' := by
    intro j hj h0
    match j, hj, h0 with
    | 1, _, _ => exact ⟨_, _, rfl, e1, (fun _ e => by cases e), fun W h => h⟩
    | 2, _, _ => exact ⟨_, _, rfl, ea, (fun vs e v hv => by cases e; rw [List.mem_singleton.1 hv]; show 4 + 1 ≤ 6; omega), fun W h => h⟩
    | 3, _, _ => exact ⟨_, _, rfl, eb, (fun vs e v hv => by cases e; rw [List.mem_singleton.1 hv]; show 5 + 1 ≤ 6; omega), fun W h => h⟩
    | 4, _, _ => exact ⟨_, _, rfl, ec, (fun _ e => by cases e), fun W h => h⟩
    | 5, _, _ => exact ⟨_, _, rfl, ed, (fun _ e => by cases e), fun W h => h⟩
  have inv : ∀ j o, Owns.get (shape y l m a b c d nx).E j = some o → ∃ i, i < 6 ∧ i ≠ 0 ∧ ren a b c d i = j := fun j o ho => by
    rcases hE j o ho with h | h | h | h | h
    · exact ⟨1, by omega, by omega, h.symm⟩
    · exact ⟨2, by omega, by omega, h.symm⟩
    · exact ⟨3, by omega, by omega, h.symm⟩
    · exact ⟨4, by omega, by omega, h.symm⟩
    · exact ⟨5, by omega, by omega, h.symm⟩
  have rinj : ∀ i j, i < 6 → i ≠ 0 → j < 6 → j ≠ 0 → i ≠ j → ren a b c d i ≠ ren a b c d j := by
    intro i j hi hi0 hj hj0 hne
    match i, hi, hi0, j, hj, hj0 with
    | 1, _, _, 1, _, _ | 2, _, _, 2, _, _ | 3, _, _, 3, _, _ | 4, _, _, 4, _, _ | 5, _, _, 5, _, _ => exact absurd rfl hne
    | 1, _, _, 2, _, _ => exact h1a
    | 1, _, _, 3, _, _ => exact h1b
    | 1, _, _, 4, _, _ => exact h1c
    | 1, _, _, 5, _, _ => exact h1d
    | 2, _, _, 1, _, _ => exact fun e => h1a e.symm
    | 2, _, _, 3, _, _ => exact hab
    | 2, _, _, 4, _, _ => exact hac
    | 2, _, _, 5, _, _ => exact had
    | 3, _, _, 1, _, _ => exact fun e => h1b e.symm
    | 3, _, _, 2, _, _ => exact fun e => hab e.symm
    | 3, _, _, 4, _, _ => exact hbc
    | 3, _, _, 5, _, _ => exact hbd
    | 4, _, _, 1, _, _ => exact fun e => h1c e.symm
    | 4, _, _, 2, _, _ => exact fun e => hac e.symm
    | 4, _, _, 3, _, _ => exact fun e => hbc e.symm
    | 4, _, _, 5, _, _ => exact hcd
    | 5, _, _, 1, _, _ => exact fun e => h1d e.symm
    | 5, _, _, 2, _, _ => exact fun e => had e.symm
    | 5, _, _, 3, _, _ => exact fun e => hbd e.symm
    | 5, _, _, 4, _, _ => exact fun e => hcd e.symm
  have hO : OSet (Ownr.plain G O) (shape y l m 2 3 4 5 6).E (fun j => β (ren a b c d j)) = OSet (Ownr.plain G O) (shape y l m a b c d nx).E β := by
    funext g
    apply propext
    constructor
    · rintro (h1 | ⟨i, o, h1, h2⟩)
      · exact .inl h1
      · obtain ⟨k1, k2⟩ := hE' i o h1
        obtain ⟨o2, o3, _, h4, _, _⟩ := key i k1 k2
        exact .inr ⟨_, _, h4, h2⟩
    · rintro (h1 | ⟨i, o, h1, h2⟩)
      · exact .inl h1
      · obtain ⟨j, k1, k2, rfl⟩ := inv i o h1
        obtain ⟨o2, o3, h3, _, _, _⟩ := key j k1 k2
        exact .inr ⟨_, _, h3, h2⟩
  refine ⟨h.sz, h.df, h.bel, fun s => ?_, fun i o ho => ?_, fun i o g ho hg => ?_, fun i j oi oj hi hj hne => ?_, fun i o ho => (hE' i o ho).1, ⟨Nat.zero_le _, fun i hi => absurd hi (Nat.not_lt_zero _)⟩, fun s => ?_, fun i o ho => ?_⟩
  · have hs := h.fr s
    match s with
    | 5 | 7 | 8 | 9 => exact hs
    | 0 | 1 | 2 | 3 | 4 | 6 => trivial
    | s + 10 => trivial
  · obtain ⟨k1, k2⟩ := hE' i o ho
    obtain ⟨o2, o3, h3, h4, _, h5⟩ := key i k1 k2
    rw [h3] at ho
    cases ho
    rw [hO]
    exact h5 _ (h.own _ _ h4)
  · obtain ⟨k1, k2⟩ := hE' i o ho
    obtain ⟨o2, o3, h3, h4, _, h5⟩ := key i k1 k2
    exact h.new _ _ g h4 hg
  · obtain ⟨k1, k2⟩ := hE' i oi hi
    obtain ⟨k3, k4⟩ := hE' j oj hj
    obtain ⟨o2, o3, h3, h4, _, _⟩ := key i k1 k2
    obtain ⟨o5, o6, h5, h6, _, _⟩ := key j k3 k4
    exact h.inj _ _ _ _ h4 h6 (rinj i j k1 k2 k3 k4 hne)
  · match s with
    | 5 => show 1 + 1 ≤ 6; omega
    | 7 => exact Nat.zero_le _
    | 8 => show 2 + 1 ≤ 6; omega
    | 9 => show 3 + 1 ≤ 6; omega
    | 0 | 1 | 2 | 3 | 4 | 6 => exact Nat.zero_le _
    | s + 10 => exact Nat.zero_le _
  · obtain ⟨k1, k2⟩ := hE' i o ho
    obtain ⟨o2, o3, h3, h4, h7, h5⟩ := key i k1 k2
    rw [h3] at ho
    cases ho
    exact h7
end
def nodupB : List Nat → Bool
  | [] => true
  | x :: r => !hasN r x && nodupB r
theorem nodupB_ok : ∀ {l : List Nat}, nodupB l = true → l.Nodup
  | [], _ => List.nodup_nil
  | x :: r, h => by
    have h : (!hasN r x && nodupB r) = true := h
    rw [Bool.and_eq_true, Bool.not_eq_true'] at h
    refine List.nodup_cons.2 ⟨fun hm => ?_, nodupB_ok h.2⟩
    rw [hasN_iff.2 hm] at h
    cases h.1
def kLe : Kn := { pK with C := [(14, cSanity), (16, cFew), (19, cGrainP), (21, cBookP), (23, cMoveP), (33, cFits)], H := [24] }
theorem kLe_ok : KnOk Tryz.prog pH kLe := ⟨pT_ok, pU_ok, .cons sanity_ok <| .cons few_ok <| .cons grain_ok.lift <| .cons book_ok.lift <| .cons move_ok.lift <| .cons rfits_ok.lift .nil, pH_st, .nil⟩
set_option maxHeartbeats 8000000 in
theorem law4_ok : CtrOk Tryz.prog pH 6 (lawCtr [.slice gr, gr, who]) := by
  refine ctr_of_awp (K := kLe) kLe_ok Tryz.func6 rfl rfl Tryz.call6 rfl (by decide) (by intro h; cases h) ?_
  rintro w0 X hX ⟨(l : List Gt), (g0 : Gt), ⟨(person : Int), (ts : List Int), _⟩, _⟩ hp
  change AWP _ _ _ _ _ ⟨[(0, ⟨.slice gr, l⟩), (1, ⟨gr, g0⟩), (2, ⟨who, (person, ts, ())⟩)], [], 0⟩ _
  (repeat (first | refine AWP.seq ?_ | refine AWP.skip ?_ | refine AWP.block ?_ | refine AWP.exit ?_)); refine AWP.region hX kLe_ok rfl ?_ ?_
  · trivial
  (repeat (first | refine AWP.seq ?_ | refine AWP.skip ?_ | refine AWP.block ?_ | refine AWP.exit ?_)); refine AWP.region hX kLe_ok rfl ?_ ?_
  · trivial
  refine AWP.fit (σ' := ⟨[(0, ⟨.slice gr, l⟩), (4, ⟨.optr gr, ⟨0, gr, .here⟩⟩), (5, ⟨.optr who, ⟨1, who, .here⟩⟩), (7, ⟨.bool, true⟩)], [(0, some (.box gr g0)), (1, some (.box who (person, ts, ())))], 2⟩) ⟨⟨rfl, rfl, rfl, rfl, trivial⟩, ⟨rfl, rfl, trivial⟩, rfl, rfl⟩ ?_
  (repeat (first | refine AWP.seq ?_ | refine AWP.skip ?_ | refine AWP.block ?_ | refine AWP.exit ?_)); refine AWP.mono (Q := fun e s => e = .normal ∧ ∃ a b c d nx, Fit s (shape (person, ts, ()) (made l) [mk1 g0] a b c d nx) ∧ nodupB [1, a, b, c, d] = true) ?_ ?_
  · refine AWP.ordersA dM 9 rfl (by kernel_rfl) ?_
    repeat' (first
      | exact AllN.nil
      | refine AllN.cons ⟨_, rfl, ?_⟩ ?_
      | refine StepA.eval hX kLe_ok rfl trivial ?_
      | refine StepA.hand rfl fun β a w hs => call_box hX (BCtrOk.lift rmade_box) rfl rfl rfl rfl rfl (by exact trivial) (by exact trivial) hs fun β' a' w' hs' => ⟨_, β', hs', ?_⟩
      | refine StepA.hand rfl fun β a w hs => call_box hX (BCtrOk.lift rmade_box) rfl rfl rfl rfl rfl (by exact trivial) (by exact trivial) (hs.frz hX (.tmp 20)) fun β' a' w' hs' => ⟨_, β', hs', ?_⟩
      | (refine OrdA.last ?_; exact ⟨rfl, _, _, _, _, 100, ⟨⟨rfl, rfl, rfl, rfl, trivial⟩, ⟨rfl, rfl, rfl, rfl, rfl, trivial⟩, rfl, rfl⟩, rfl⟩))
  · rintro e s ⟨rfl, a, b, c, d, nx, hf, hn⟩
    show AWP Tryz.prog w0 (Ownr.plain pH X) _ _ s _
    refine AWP.fit hf ?_ (by exact Nat.zero_le _)
    suffices key : AWP Tryz.prog w0 (Ownr.plain pH X) _ _ (shape (person, ts, ()) (made l) [mk1 g0] 2 3 4 5 6) _ from fun β act w hs => key _ act w (hs.canon (nodupB_ok hn))
    clear hf hn
    unfold shape
    (repeat (first | refine AWP.seq ?_ | refine AWP.skip ?_ | refine AWP.block ?_ | refine AWP.exit ?_)); refine AWP.region hX kLe_ok rfl ?_ ?_
    · trivial
    (repeat (first | refine AWP.seq ?_ | refine AWP.skip ?_ | refine AWP.block ?_ | refine AWP.exit ?_)); refine AWP.region hX kLe_ok rfl ?_ ?_
    · repeat' (first | exact trivial | exact (by decide : Int.toNat 0 < 1) | exact (by decide : (0 : Int) ≤ 0) | exact (by decide : (0 : Int) < 1) | (refine ⟨?_, ?_⟩) | (intro _))
    refine AWP.frzL hX 2 0 ?_
    have hlen := made_len l
    (repeat (first | refine AWP.seq ?_ | refine AWP.skip ?_ | refine AWP.block ?_ | refine AWP.exit ?_)); refine AWP.region hX kLe_ok rfl ?_ ?_
    · show 1 + (made l).length ≤ 1000000000
      omega
    refine AWP.frzL hX 7 0 ?_
    refine AWP.fit (σ' := ⟨[(5, ⟨.optr who, ⟨1, who, .here⟩⟩), (7, ⟨.bool, true⟩), (8, ⟨.hptr, (2, 0)⟩), (10, ⟨.optr gr, ⟨6, gr, .here⟩⟩), (11, ⟨.hptr, (7, 0)⟩)], [(1, some (.box who (person, ts.take (min ((ts.length : Nat) : Int) 10).toNat, ()))), (2, some (.hbox [⟨.slice gr, made l⟩])), (6, some (.box gr (mk1 g0))), (7, some (.hbox [⟨.slice gr, mk1 g0 :: made l⟩]))], 8⟩) ⟨⟨rfl, rfl, rfl, rfl, rfl, trivial⟩, ⟨rfl, rfl, rfl, rfl, trivial⟩, rfl, rfl⟩ ?_
    have hl : OkP (made l) := made_ok l
    have hh : OkG (mk1 g0) := mk1_ok g0
    have hq : OkP (mk1 g0 :: made l) := okP_app (l := [mk1 g0]) (made_ok [g0]) hl (by show 1 + (made l).length ≤ 64; omega)
    generalize ts.take (min ((ts.length : Nat) : Int) 10).toNat = ws
    generalize made l = p at hl hq
    generalize mk1 g0 = h at hh hq
    (repeat (first | refine AWP.seq ?_ | refine AWP.skip ?_ | refine AWP.block ?_ | refine AWP.exit ?_)); refine AWP.draw dM hX kLe_ok 20 (by kernel_rfl) rfl rfl ?_ ?_ ?_
    · repeat' (first | exact trivial | assumption | (refine ⟨?_, ?_⟩) | (intro _))
    · trivial
    refine AWP.fit (σ' := ⟨[(5, ⟨.optr who, ⟨1, who, .here⟩⟩), (7, ⟨.bool, true⟩), (8, ⟨.hptr, (2, 0)⟩), (10, ⟨.optr gr, ⟨6, gr, .here⟩⟩), (12, ⟨i64, grain (h :: p) person ws⟩), (13, ⟨.bool, book (h :: p) person ws⟩), (14, ⟨.bool, move (h :: p) person ws 30⟩)], [(1, some (.box who (person, ws, ()))), (2, some (.hbox [⟨.slice gr, p⟩])), (6, some (.box gr h))], 8⟩) ⟨⟨rfl, rfl, rfl, rfl, rfl, rfl, rfl, trivial⟩, ⟨rfl, rfl, rfl, trivial⟩, rfl, rfl⟩ ?_
    have eg := grain_cons hq hl person ws
    have eb := book_cons hq hl person ws
    generalize grain (h :: p) person ws = qg at eg
    generalize book (h :: p) person ws = qb at eb
    obtain ⟨qm, em⟩ : ∃ qm, move (h :: p) person ws 30 = qm := ⟨_, rfl⟩
    rw [em]
    (repeat (first | refine AWP.seq ?_ | refine AWP.skip ?_ | refine AWP.block ?_ | refine AWP.exit ?_)); refine AWP.region hX kLe_ok rfl ?_ ?_
    · repeat' (first | exact trivial | assumption | (refine ⟨?_, ?_⟩) | (intro _))
    obtain ⟨f, ef⟩ : ∃ f, fits h person ws = f := ⟨_, rfl⟩
    rw [ef] at eg eb
    refine AWP.fit (σ' := ⟨[(5, ⟨.optr who, ⟨1, who, .here⟩⟩), (7, ⟨.bool, true⟩), (8, ⟨.hptr, (2, 0)⟩), (10, ⟨.optr gr, ⟨6, gr, .here⟩⟩), (12, ⟨i64, qg⟩), (13, ⟨.bool, qb⟩), (14, ⟨.bool, qm⟩), (15, ⟨.bool, f⟩)], [(1, some (.box who (person, ws, ()))), (2, some (.hbox [⟨.slice gr, p⟩])), (6, some (.box gr h))], 8⟩) ⟨⟨rfl, rfl, rfl, rfl, rfl, rfl, rfl, vBool ef, trivial⟩, ⟨rfl, rfl, rfl, trivial⟩, rfl, rfl⟩ ?_
    (repeat (first | refine AWP.seq ?_ | refine AWP.skip ?_ | refine AWP.block ?_ | refine AWP.exit ?_)); refine AWP.region hX kLe_ok rfl ?_ ?_
    · repeat' (first | exact trivial | assumption | (refine ⟨?_, ?_⟩) | (intro _))
    refine AWP.cond rfl (fun hb => ?_) (fun hb => ?_)
    · have hb : (bif f then gA h == 1 else false) = true := hb
      have hf : f = true := by cases f with | true => rfl | false => cases hb
      subst hf
      have ha : gA h = 1 := by have hb : (gA h == 1) = true := hb; simpa using hb
      rw [if_pos ⟨ha, rfl⟩] at eg
      rw [if_neg (by omega)] at eb
      (repeat (first | refine AWP.seq ?_ | refine AWP.skip ?_ | refine AWP.block ?_ | refine AWP.exit ?_)); refine AWP.region hX kLe_ok rfl ?_ ?_
      · repeat' (first | exact trivial | assumption | (refine ⟨?_, ?_⟩) | (intro _))
      refine AWP.ret ⟨.inr rfl, done1 rfl trivial rfl rfl ?_⟩
      have x1 : (qg == gG h) = true := by rw [eg]; exact beq_self_eq_true (α := Int) _
      have x2 : eqb .bool qb (book p person ws) = true := eqb_iff.2 eb
      exact bif_true (bif_true x1 x2) rfl
    · have h1 : (bif f then gA h == 1 else false) = false := hb
      have ha1 : f = true → gA h ≠ 1 := fun hf => by subst hf; have h1 : (gA h == 1) = false := h1; simpa using h1
      rw [if_neg (fun h => ha1 h.2 h.1)] at eg
      (repeat (first | refine AWP.seq ?_ | refine AWP.skip ?_ | refine AWP.block ?_ | refine AWP.exit ?_)); refine AWP.region hX kLe_ok rfl ?_ ?_
      · repeat' (first | exact trivial | assumption | (refine ⟨?_, ?_⟩) | (intro _))
      refine AWP.cond rfl (fun hb => ?_) (fun hb => ?_)
      · have hb : (bif f then gA h == 2 else false) = true := hb
        have hf : f = true := by cases f with | true => rfl | false => cases hb
        subst hf
        have ha : gA h = 2 := by have hb : (gA h == 2) = true := hb; simpa using hb
        rw [if_pos ⟨ha, rfl⟩] at eb
        have em2 : qm = move p person ws 30 := em.symm.trans (move_skip hq hl (fun h3 => by omega) 30)
        (repeat (first | refine AWP.seq ?_ | refine AWP.skip ?_ | refine AWP.block ?_ | refine AWP.exit ?_)); refine AWP.region hX kLe_ok rfl ?_ ?_
        · repeat' (first | exact trivial | assumption | (refine ⟨?_, ?_⟩) | (intro _))
        refine AWP.ret ⟨.inr rfl, done1 rfl trivial rfl rfl ?_⟩
        have x2 : eqb .bool qm (move p person ws 30) = true := eqb_iff.2 em2
        exact bif_true (bif_true eb x2) rfl
      · have h2 : (bif f then gA h == 2 else false) = false := hb
        have ha2 : f = true → gA h ≠ 2 := fun hf => by subst hf; have h2 : (gA h == 2) = false := h2; simpa using h2
        rw [if_neg (fun h => ha2 h.2 h.1)] at eb
        (repeat (first | refine AWP.seq ?_ | refine AWP.skip ?_ | refine AWP.block ?_ | refine AWP.exit ?_)); refine AWP.region hX kLe_ok rfl ?_ ?_
        · trivial
        refine AWP.cond rfl (fun hb => ?_) (fun hb => ?_)
        · have hf : f = true := hb
          subst hf
          have ha : gA h = 3 := by have := hh.1; have := ha1 rfl; have := ha2 rfl; omega
          have em2 : qm = decide (30 ≤ gR h) := em.symm.trans (move_first hq hl ⟨ha, ef⟩ 30)
          (repeat (first | refine AWP.seq ?_ | refine AWP.skip ?_ | refine AWP.block ?_ | refine AWP.exit ?_)); refine AWP.region hX kLe_ok rfl ?_ ?_
          · repeat' (first | exact trivial | assumption | (refine ⟨?_, ?_⟩) | (intro _))
          refine AWP.ret ⟨.inr rfl, done1 rfl trivial rfl rfl ?_⟩
          have x1 : eqb .bool qm (decide (gR h ≥ 30)) = true := eqb_iff.2 em2
          have x2 : (qg == grain p person ws) = true := by rw [eg]; exact beq_self_eq_true (α := Int) _
          exact bif_true (bif_true x1 x2) rfl
        · have hf : f = false := hb
          subst hf
          have em2 : qm = move p person ws 30 := em.symm.trans (move_skip hq hl (fun h3 => by rw [ef] at h3; cases h3.2) 30)
          (repeat (first | refine AWP.seq ?_ | refine AWP.skip ?_ | refine AWP.block ?_ | refine AWP.exit ?_)); refine AWP.region hX kLe_ok rfl ?_ ?_
          · repeat' (first | exact trivial | assumption | (refine ⟨?_, ?_⟩) | (intro _))
          refine AWP.ret ⟨.inr rfl, done1 rfl trivial rfl rfl ?_⟩
          have x1 : (qg == grain p person ws) = true := by rw [eg]; exact beq_self_eq_true (α := Int) _
          have x2 : eqb .bool qb (book p person ws) = true := eqb_iff.2 eb
          have x3 : eqb .bool qm (move p person ws 30) = true := eqb_iff.2 em2
          exact bif_true (bif_true (bif_true x1 x2) x3) rfl
end Go.Proofs.YthkhgpbjfcmopaaGreatDoor
