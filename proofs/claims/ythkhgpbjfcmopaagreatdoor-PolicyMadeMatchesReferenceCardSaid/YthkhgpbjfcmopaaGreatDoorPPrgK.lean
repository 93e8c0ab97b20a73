/-
  Package policy: the reader's method number.
-/
import Derived.Test.YthkhgpbjfcmopaaGreatDoorPPrgJ
namespace Go.Proofs.YthkhgpbjfcmopaaGreatDoor
open Go Go.RowKit
set_option linter.unusedSimpArgs false
set_option linter.unusedVariables false
set_option maxRecDepth 100000
/-- what Atoi hands back at a numeral -/
def AtoiEnd (s : List UInt8) (v : Int) (ev : Value) : Prop := (ev = .nilIface ∧ ∃ u : Nat, v = u ∧ (num s).1 = ((min u 1000000 : Nat) : Int)) ∨ ((∃ t p, ev = .iface t p) ∧ (num s).1 = 1000000)
theorem atoi_call {s : List UInt8} (hs : (num s).2.1 = true) (hl : s.length ≤ 100000) (w : World) (hG : pH w) :
    Calls Tryz.prog 117 #[.string ⟨s.toArray⟩] w fun e w' => ∃ v ev, e = .returned (.tuple #[.int .i64 v, ev]) ∧ Below w.heap.size w w' ∧ AtoiEnd s v ev := by
  obtain ⟨n, hn, h⟩ := atoi_num hs
  rcases h with ⟨h1, h2⟩ | ⟨u, h1, h2⟩
  · obtain ⟨ev, hv, hev⟩ := hG.2
    refine Calls.mono (Any.strconv_Atoi_range Tryz.lays172 ⟨s.toArray⟩ (by show s.length ≤ 281474976710656; omega) h1 ev w hv hev) ?_
    rintro e w' ⟨N, rfl, _, _, hb⟩
    exact ⟨_, _, rfl, hb, .inr ⟨⟨_, _, rfl⟩, by rw [hn, h2]; rfl⟩⟩
  · refine Calls.mono (Any.strconv_Atoi_ok Tryz.lays172 ⟨s.toArray⟩ (by show s.length ≤ 9223372036854775806; omega) (u : Int) h1 w) ?_
    rintro e w' ⟨rfl, hw⟩
    refine ⟨_, _, rfl, ?_, .inl ⟨rfl, u, rfl, by rw [hn, h2]⟩⟩
    rcases hw with rfl | ⟨t, rfl⟩
    · exact Below.refl _ _
    · exact Lib.bytesWorld_below _ _ _
theorem num_test (s : List UInt8) (d : Bool) (hd : d = decide (s.getD 0 0 = 48)) : (bif (bif eqb .str s [] then true else !eqb .str (Lib.trimS s digs) []) then true else bif d then !eqb .str s [48] else false) = true ↔ (num s).2.1 = false := by
  rw [num_bad, hd, eqb_decide, eqb_decide, eqb_decide]
  by_cases h1 : s = []
  · rw [decide_eq_true h1]
    exact ⟨fun _ => .inl h1, fun _ => rfl⟩
  · rw [decide_eq_false h1]
    by_cases h2 : Lib.trimS s digs = []
    · rw [decide_eq_true h2]
      by_cases h3 : s.getD 0 0 = 48
      · rw [decide_eq_true h3]
        by_cases h4 : s = [48]
        · rw [decide_eq_true h4]
          exact ⟨fun h => (by cases h), fun h => h.elim (fun h => (h1 h).elim) (fun h => h.elim (fun h => (h h2).elim) fun h => (h.2 h4).elim)⟩
        · rw [decide_eq_false h4]
          exact ⟨fun _ => .inr (.inr ⟨h3, h4⟩), fun _ => rfl⟩
      · rw [decide_eq_false h3]
        exact ⟨fun h => (by cases h), fun h => h.elim (fun h => (h1 h).elim) (fun h => h.elim (fun h => (h h2).elim) fun h => (h3 h.1).elim)⟩
    · rw [decide_eq_false h2]
      exact ⟨fun _ => .inr (.inl h2), fun _ => rfl⟩
def notNil : Value → Bool
  | .nilIface => false
  | _ => true
theorem errT : Tryz.prog.underlying 83 = some (.interface (Tryz.prog.methodsAt 83)) := by kernel_rfl
/-- an error is compared with nil -/
theorem neqNil {a : Act} {w : World} {x : Operand} {d : Nat} {ty : TypeId} {pos : String} {af : Array Edge} {ev : Value} (hx : a.eval x = ev) (he : ev = .nilIface ∨ ∃ t p, ev = .iface t p) :
    (execOp a.eval { dst := some d, op := Op.binOp .neq 83 x (.const .nilIface) 83, type := ty, pos := pos, after := af, guard := none }).run Tryz.prog w = .ok (.value (.bool (notNil ev))) w := by
  have hn : a.eval (.const .nilIface) = .nilIface := rfl
  unfold execOp
  rcases he with rfl | ⟨t, p, rfl⟩
  · simp [hx, hn, eqGuard, run_neq_nil_nil _ _ errT, notNil]
  · simp [hx, hn, eqGuard, run_neq_held_nil _ _ _ _ errT, notNil]
def cNumP : PCtr := { self := rd, args := [i64], inv := pN, pre := fun r xs => [0 < List.length r.1, List.length (hdT r.1) ≤ 100000, 0 ≤ xs.1, xs.1 < 1000000], res := i64, out := fun r xs => toV (fun y => (y.1, (y.2, ()))) (numP r.1 xs.1) }
def kHF : Kn := { pK with C := [(116, cTrim)] }
theorem kHF_ok : KnOk Tryz.prog pH kHF := hK_ok.with (.cons trim_ok .nil)
theorem number_ok : PCtrOk Tryz.prog pH 96 cNumP := by
  refine pctr_of_awp (K := kHF) kHF_ok Tryz.func96 rfl rfl Tryz.call96 rfl (by decide) pN_st ?_
  rintro w0 O g hX hinv ⟨(ws : List Wd), _⟩ ⟨(m : Int), _⟩ hp
  obtain ⟨hp, hwl, hm0, hm1⟩ : 0 < ws.length ∧ (hdT ws).length ≤ 100000 ∧ 0 ≤ m ∧ m < 1000000 := hp
  change AWP _ _ _ _ _ ⟨[(0, ⟨.optr rd, ⟨0, rd, .here⟩⟩), (1, ⟨i64, m⟩)], [(0, some (.box rd (ws, ())))], 1⟩ _
  (repeat (first | refine AWP.seq ?_ | refine AWP.skip ?_ | refine AWP.label ?_ | refine AWP.exit ?_ | refine AWP.block ?_ | refine AWP.region hX kHF_ok rfl trivial ?_ | refine AWP.region hX kHF_ok rfl id ?_ | refine AWP.region hX kHF_ok rfl ⟨id, id⟩ ?_))
  (repeat (first | refine AWP.seq ?_ | refine AWP.skip ?_ | refine AWP.block ?_ | refine AWP.exit ?_)); refine AWP.region hX kHF_ok rfl ?_ ?_
  · exact ⟨Int.le_refl _, by show (0 : Int) < (ws.length : Nat); omega⟩
  refine AWP.fit (σ' := ⟨[(0, ⟨.optr rd, ⟨0, rd, .here⟩⟩), (1, ⟨i64, m⟩), (5, ⟨.str, hdT ws⟩)], [(0, some (.box rd (ws, ())))], 1⟩) ⟨⟨rfl, rfl, rfl, trivial⟩, ⟨rfl, trivial⟩, rfl, rfl⟩ ?_
  have hO : cNumP.out (ws, ()) (m, ()) = toV (fun y => (y.1, (y.2, ()))) (numP ws m) := rfl
  rw [hO]
  unfold numP
  generalize hw : hdT ws = s at hwl ⊢
  have hpos : ∀ x : Bool, (!bif eqb .str s [] then true else x) = true → (0 : Int) < ((List.length s : Nat) : Int) := fun x h => by
    rw [eqb_decide] at h
    by_cases hs : s = []
    · rw [decide_eq_true hs] at h; cases h
    · have := List.length_pos_iff.2 hs
      omega
  (repeat (first | refine AWP.seq ?_ | refine AWP.skip ?_ | refine AWP.block ?_ | refine AWP.exit ?_)); refine AWP.region hX kHF_ok rfl ?_ ?_
  · refine ⟨fun h => ⟨h, rfl⟩, fun h => h, fun h => h, fun h => ⟨h, Int.le_refl _, hpos _ h⟩, fun h => h, fun h => h, ⟨fun h => ⟨by rw [Bool.and_eq_true]; exact ⟨h, h⟩, fun h2 => by rw [Bool.and_eq_true, Bool.and_eq_true]; exact ⟨⟨h, h⟩, h2⟩⟩, ?_⟩⟩
    exact fun h => h
  have ht := num_test s _ (show ((((s.getD (Int.toNat 0) 0).toNat : Nat) : Int) == ((UInt8.toNat 48 : Nat) : Int)) = decide (s.getD 0 0 = 48) by
    rw [Bool.eq_iff_iff, beq_iff_eq, decide_eq_true_iff]
    show (((s.getD 0 0).toNat : Nat) : Int) = ((UInt8.toNat 48 : Nat) : Int) ↔ _
    rw [Int.natCast_inj]
    exact UInt8.toNat_inj)
  refine AWP.cond rfl (fun hb => ?_) (fun hb => ?_)
  · have hb := ht.1 hb
    rw [if_pos hb]
    (repeat (first | refine AWP.seq ?_ | refine AWP.skip ?_ | refine AWP.block ?_ | refine AWP.exit ?_)); refine AWP.list ?_
    refine AL.take 1 hX kHF_ok rfl trivial ?_
    refine AL.pcall hX fail_ok (c := cFailP) (x := (ws, ())) (xs := ((3 : Int), ())) rfl rfl rfl rfl rfl rfl rfl rfl rfl rfl trivial hp (one_inv (one_pH hX) hinv) (F' := fun _ => _) (fun _ => rfl) ?_
    exact fun x' => ⟨rfl, x', rfl⟩
  have hgood : ¬ (num s).2.1 = false := fun h => Bool.noConfusion (hb.symm.trans (ht.2 h))
  have hgood1 : (num s).2.1 = true := by simpa using hgood
  rw [if_neg hgood]
  (repeat (first | refine AWP.seq ?_ | refine AWP.skip ?_ | refine AWP.label ?_ | refine AWP.exit ?_ | refine AWP.block ?_ | refine AWP.region hX kHF_ok rfl trivial ?_ | refine AWP.region hX kHF_ok rfl id ?_ | refine AWP.region hX kHF_ok rfl ⟨id, id⟩ ?_))
  refine AWP.fit (σ' := ⟨[(0, ⟨.optr rd, ⟨0, rd, .here⟩⟩), (1, ⟨i64, m⟩), (5, ⟨.str, s⟩)], [(0, some (.box rd (ws, ())))], 1⟩) ⟨⟨rfl, rfl, rfl, trivial⟩, ⟨rfl, trivial⟩, rfl, rfl⟩ ?_
  refine AWP.list ?_
  refine AL.take 1 hX kHF_ok rfl trivial ?_
  refine AL.hand rfl (fun c e => by cases e) fun β a w' hs => ?_
  have h34 : a.eval (.tmp 34) = .string ⟨s.toArray⟩ := (RepV.str (hs.ops (.tmp 34))).1
  refine wp_enter (f := 117) rfl Tryz.call117 ?_
  show Calls _ _ ((#[Operand.tmp 34].toList.map a.eval).toArray) _ _
  rw [show ((#[Operand.tmp 34].toList.map a.eval).toArray : Array Value) = #[.string ⟨s.toArray⟩] by show #[a.eval (.tmp 34)] = _; rw [h34]]
  refine (atoi_call hgood1 hwl w' (hX.2.2 w' hs.bel)).mono ?_
  rintro e w'' ⟨v, ev, rfl, hb2, hend⟩
  refine ⟨_, rfl, ⟨(35, ⟨.lit, .tuple #[.int .i64 v, ev]⟩) :: _, _, _⟩, β, hs.put hb2 (v := ⟨.lit, .tuple #[.int .i64 v, ev]⟩) rfl (Nat.zero_le _) (by show 35 < 56; omega), ?_⟩
  refine AL.take 1 hX kHF_ok rfl trivial ?_
  refine AL.hand rfl (fun c e => by cases e) fun β a w' hs => ?_
  have h33 : a.eval (.tmp 33) = .tuple #[.int .i64 v, ev] := hs.ops (.tmp 33)
  refine wp_run (u := .int .i64 v) (w' := w') ?_ ⟨⟨(36, ⟨i64, v⟩) :: _, _, _⟩, β, hs.put (Below.refl _ _) (v := ⟨i64, v⟩) (RepV.ofInt (k := .i64)) (Nat.zero_le _) (by show 36 < 56; omega), ?_⟩
  · show (execOp a.eval { dst := some 36, op := Op.extract (.tmp 33) 0, type := _, pos := _, after := _, guard := none }).run _ _ = _
    unfold execOp
    simp [h33, Instr.extract]
  refine AL.hand rfl (fun c e => by cases e) fun β a w' hs => ?_
  have h33 : a.eval (.tmp 33) = .tuple #[.int .i64 v, ev] := hs.ops (.tmp 33)
  refine wp_run (u := ev) (w' := w') ?_ ⟨⟨(37, ⟨.lit, ev⟩) :: _, _, _⟩, β, hs.put (Below.refl _ _) (v := ⟨.lit, ev⟩) rfl (Nat.zero_le _) (by show 37 < 56; omega), ?_⟩
  · show (execOp a.eval { dst := some 37, op := Op.extract (.tmp 33) 1, type := _, pos := _, after := _, guard := none }).run _ _ = _
    unfold execOp
    simp [h33, Instr.extract]
  refine AL.all hX kHF_ok rfl trivial ?_
  refine AWP.fit (σ' := ⟨[(0, ⟨.optr rd, ⟨0, rd, .here⟩⟩), (1, ⟨i64, m⟩), (6, ⟨i64, v⟩), (7, ⟨.lit, ev⟩)], [(0, some (.box rd (ws, ())))], 1⟩) ⟨⟨rfl, rfl, rfl, rfl, trivial⟩, ⟨rfl, trivial⟩, rfl, rfl⟩ ?_
  refine AWP.seq ?_
  refine AWP.seq (AWP.list ?_)
  refine AL.take 1 hX kHF_ok rfl trivial ?_
  refine AL.hand rfl (fun c e => by cases e) fun β a w' hs => ?_
  have h38 : a.eval (.tmp 38) = ev := hs.ops (.tmp 38)
  obtain ⟨b, hbv⟩ : ∃ b, b = notNil ev := ⟨_, rfl⟩
  refine wp_run (u := .bool b) (w' := w') (by rw [hbv]; exact neqNil h38 (hend.imp (fun h => h.1) (fun h => h.1))) ⟨⟨(39, ⟨.bool, b⟩) :: _, _, _⟩, β, hs.put (Below.refl _ _) (v := ⟨.bool, b⟩) RepV.ofBool (Nat.zero_le _) (by show 39 < 56; omega), ?_⟩
  have hover : (bif b then true else decide (v > m)) = true ↔ (num s).1 > m := by
    rcases hend with ⟨rfl, u, rfl, hn⟩ | ⟨⟨t, p, rfl⟩, hn⟩
    · rw [hbv, hn]
      show decide ((u : Int) > m) = true ↔ _
      rw [decide_eq_true_iff]
      omega
    · rw [hbv, hn]
      exact ⟨fun _ => (by omega), fun _ => rfl⟩
  refine AL.all hX kHF_ok rfl ?_ ?_
  · exact ⟨fun h => ⟨h, h⟩, fun h => h⟩
  refine AWP.cond rfl (fun hb => ?_) (fun hb => ?_)
  · have hb : (bif b then true else decide (v > m)) = true := hb
    rw [if_pos (hover.1 hb)]
    (repeat (first | refine AWP.seq ?_ | refine AWP.skip ?_ | refine AWP.block ?_ | refine AWP.exit ?_)); refine AWP.list ?_
    refine AL.take 1 hX kHF_ok rfl trivial ?_
    refine AL.pcall hX fail_ok (c := cFailP) (x := (ws, ())) (xs := ((1 : Int), ())) rfl rfl rfl rfl rfl rfl rfl rfl rfl rfl trivial hp (one_inv (one_pH hX) hinv) (F' := fun _ => _) (fun _ => rfl) ?_
    exact fun x' => ⟨rfl, x', rfl⟩
  · have hb : (bif b then true else decide (v > m)) = false := hb
    have hle : ¬ (num s).1 > m := fun h => Bool.noConfusion (hb.symm.trans (hover.2 h))
    rw [if_neg hle]
    have hv : v = (num s).1 := by
      rcases hend with ⟨rfl, u, rfl, hn⟩ | ⟨⟨t, p, rfl⟩, hn⟩
      · omega
      · omega
    (repeat (first | refine AWP.seq ?_ | refine AWP.skip ?_ | refine AWP.label ?_ | refine AWP.exit ?_ | refine AWP.block ?_ | refine AWP.region hX kHF_ok rfl trivial ?_ | refine AWP.region hX kHF_ok rfl id ?_ | refine AWP.region hX kHF_ok rfl ⟨id, id⟩ ?_))
    (repeat (first | refine AWP.seq ?_ | refine AWP.skip ?_ | refine AWP.block ?_ | refine AWP.exit ?_)); refine AWP.region hX kHF_ok rfl ?_ ?_
    · exact ⟨by decide, by show (1 : Int) ≤ (ws.length : Nat); omega⟩
    (repeat (first | refine AWP.seq ?_ | refine AWP.skip ?_ | refine AWP.label ?_ | refine AWP.exit ?_ | refine AWP.block ?_ | refine AWP.region hX kHF_ok rfl trivial ?_ | refine AWP.region hX kHF_ok rfl id ?_ | refine AWP.region hX kHF_ok rfl ⟨id, id⟩ ?_))
    refine AWP.ret ⟨.inr rfl, ?_, done1 rfl trivial rfl rfl hv⟩
    show some (OObj.box rd (List.drop 1 ws, ())) = some (OObj.box rd (ws.tail, ()))
    rw [List.drop_one]
end Go.Proofs.YthkhgpbjfcmopaaGreatDoor
