/-
  Package policy: the reader's methods, which panic at a wrong word: fail, pass.
-/
import Derived.Test.YthkhgpbjfcmopaaGreatDoorPPlB
import Derived.Test.YthkhgpbjfcmopaaGreatDoorPPrgE
import Derived.Test.YthkhgpbjfcmopaaGreatDoorPPrgI
import Derived.Test.YthkhgpbjfcmopaaGreatDoorAbsPan
namespace Go.Proofs.YthkhgpbjfcmopaaGreatDoor
open Go Go.RowKit
set_option linter.unusedSimpArgs false
set_option linter.unusedVariables false
set_option maxRecDepth 100000
/-- no variable of the library's lies in this block -/
def pN (_ : World) (g : Nat) : Prop := g ≠ 3 ∧ g ≠ 5
theorem pN_st (w w' : World) (g : Nat) (h : pN w g) (hG : pH w) (hk : Kept (fun h => h = g) w w') : pH w' := pH_kept (fun e => h.1 e.symm) (fun e => h.2 e.symm) hG hk
/-- the value that the parser panics with -/
def pv (e : Int × Int) : Value := .iface 100 (.agg #[.int .i64 e.1, .int .i64 e.2])
def toV {α β : Type} (f : α → β) : Except (Int × Int) α → Except Value β
  | .error e => .error (pv e)
  | .ok a => .ok (f a)
theorem run_mkIface {P : Program} {w : World} {t : TypeId} {fs : Array Field} (h : P.underlying t = some (.struct fs)) (x : Value) : (Instr.makeInterface t x).run P w = .ok (.iface t x) w := by
  unfold Instr.makeInterface
  simp [run_underlying h]
def cFailP : PCtr := { self := rd, args := [i64], inv := pN, pre := fun r _ => [0 < List.length r.1], res := .unit, out := fun r xs => .error (pv (hdA r.1, xs.1)) }
theorem fail_ok : PCtrOk Tryz.prog pH 64 cFailP := by
  refine pctr_of_awp (K := pK) hK_ok Tryz.func64 rfl rfl Tryz.call64 rfl (by decide) pN_st ?_
  rintro w0 O g hX hinv ⟨(ws : List Wd), _⟩ ⟨(e : Int), _⟩ hp
  have hp : 0 < ws.length := hp
  change AWP _ _ _ _ _ ⟨[(0, ⟨.optr rd, ⟨0, rd, .here⟩⟩), (1, ⟨i64, e⟩)], [(0, some (.box rd (ws, ())))], 1⟩ _
  (repeat (first | refine AWP.seq ?_ | refine AWP.skip ?_ | refine AWP.block ?_ | refine AWP.exit ?_)); refine AWP.list ?_
  refine AL.take 9 hX hK_ok rfl ?_ ?_
  · exact ⟨Int.le_refl _, by show (0 : Int) < (ws.length : Nat); omega⟩
  refine AL.hand rfl (fun c e => by cases e) fun β a w' hs => ?_
  have h12 : RepD w' _ fl (hdA ws, e, ()) (a.eval (.tmp 12)) := hs.ops (.tmp 12)
  obtain ⟨cs, h1, c1, c2, rfl, h2, c3, c4, rfl, h3, h4⟩ := (RepD.agg rfl).1 h12
  have h2 : c1 = [Value.int .i64 (hdA ws)] := h2
  have h3 : c3 = [Value.int .i64 e] := h3
  have h4 : c4 = [] := h4
  subst h2; subst h3; subst h4
  have h1 : a.eval (.tmp 12) = .agg #[.int .i64 (hdA ws), .int .i64 e] := h1
  refine wp_run (u := pv (hdA ws, e)) (w' := w') ?_ ⟨⟨(13, ⟨.lit, pv (hdA ws, e)⟩) :: _, _, _⟩, β, hs.put (Below.refl _ _) (v := ⟨.lit, pv (hdA ws, e)⟩) rfl (Nat.zero_le _) (by show 13 < 14; omega), ?_⟩
  · show (execOp a.eval { dst := some 13, op := Op.makeInterface 100 (.tmp 12), type := _, pos := _, after := _, guard := none }).run _ _ = _
    unfold execOp
    simp only [h1]
    exact run_v (run_mkIface Tryz.underlying100 _)
  refine AL.hand rfl (fun c e => by cases e) fun β a w' hs => ?_
  have h13 : a.eval (.tmp 13) = pv (hdA ws, e) := hs.ops (.tmp 13)
  have hrun : (execOp a.eval { dst := none, op := Op.panic (.tmp 13), type := 0, pos := "", after := #[], guard := none }).run Tryz.prog w' = .halt (.panic (pv (hdA ws, e))) w' := by
    unfold execOp
    simp only [h13]
    simp [pv, run_panic_iface]
  unfold Oper.wp
  erw [hrun]
  exact ⟨fun e => (by cases e), _, β, hs, rfl, _, rfl⟩
def cPassP : PCtr := { self := rd, args := [.slice .str], inv := pN, pre := fun r _ => [0 < List.length r.1], res := .str, out := fun r xs => toV (fun y => (y.1, (y.2, ()))) (passP r.1 xs.1) }
def kHE : Kn := { pK with C := [(115, cHasS)] }
theorem kHE_ok : KnOk Tryz.prog pH kHE := hK_ok.with (.cons containsS_ok.lift .nil)
theorem one_inv {w0 : World} {O : Nat → Prop} {g : Nat} (hG : pH w0) (hn : pN w0 g) : ∀ (w : World) (k : Nat), (w0.heap.size ≤ k ∨ (Ownr.one pH O g).R k) → pH w → pN w k := fun w k h _ => by
  have hl := pH_lt hG
  rcases h with h | ⟨i, hi, h⟩
  · exact ⟨fun e => hl.1 (e ▸ h), fun e => hl.2 (e ▸ h)⟩
  · have h : g = k := h
    exact h ▸ hn
theorem one_pH {w0 : World} {O : Nat → Prop} {g : Nat} (hX : (Ownr.one pH O g).Ok w0) : pH w0 := hX.2.2 w0 (Kept.refl _ _)
theorem pass_ok : PCtrOk Tryz.prog pH 95 cPassP := by
  refine pctr_of_awp (K := kHE) kHE_ok Tryz.func95 rfl rfl Tryz.call95 rfl (by decide) pN_st ?_
  rintro w0 O g hX hinv ⟨(ws : List Wd), _⟩ ⟨(al : List (List UInt8)), _⟩ hp
  have hp : 0 < ws.length := hp
  change AWP _ _ _ _ _ ⟨[(0, ⟨.optr rd, ⟨0, rd, .here⟩⟩), (1, ⟨.slice .str, al⟩)], [(0, some (.box rd (ws, ())))], 1⟩ _
  (repeat (first | refine AWP.seq ?_ | refine AWP.skip ?_ | refine AWP.label ?_ | refine AWP.exit ?_ | refine AWP.block ?_ | refine AWP.region hX kHE_ok rfl trivial ?_ | refine AWP.region hX kHE_ok rfl id ?_ | refine AWP.region hX kHE_ok rfl ⟨id, id⟩ ?_))
  (repeat (first | refine AWP.seq ?_ | refine AWP.skip ?_ | refine AWP.block ?_ | refine AWP.exit ?_)); refine AWP.region hX kHE_ok rfl ?_ ?_
  · exact ⟨Int.le_refl _, by show (0 : Int) < (ws.length : Nat); omega⟩
  (repeat (first | refine AWP.seq ?_ | refine AWP.skip ?_ | refine AWP.label ?_ | refine AWP.exit ?_ | refine AWP.block ?_ | refine AWP.region hX kHE_ok rfl trivial ?_ | refine AWP.region hX kHE_ok rfl id ?_ | refine AWP.region hX kHE_ok rfl ⟨id, id⟩ ?_))
  by_cases hc : hdT ws ∈ al
  · have ho : cPassP.out (ws, ()) (al, ()) = .ok (hdT ws, (ws.tail, ())) := by
      show toV _ (passP ws al) = _
      rw [show passP ws al = .ok (hdT ws, ws.tail) from if_pos hc]
      rfl
    rw [ho]
    refine AWP.cond rfl (fun hb => ?_) (fun hb => ?_)
    · have hb : (!decide (hdT ws ∈ al)) = true := hb
      rw [decide_eq_true hc] at hb
      cases hb
    (repeat (first | refine AWP.seq ?_ | refine AWP.skip ?_ | refine AWP.label ?_ | refine AWP.exit ?_ | refine AWP.block ?_ | refine AWP.region hX kHE_ok rfl trivial ?_ | refine AWP.region hX kHE_ok rfl id ?_ | refine AWP.region hX kHE_ok rfl ⟨id, id⟩ ?_))
    (repeat (first | refine AWP.seq ?_ | refine AWP.skip ?_ | refine AWP.block ?_ | refine AWP.exit ?_)); refine AWP.region hX kHE_ok rfl ?_ ?_
    · exact ⟨by decide, by show (1 : Int) ≤ (ws.length : Nat); omega⟩
    (repeat (first | refine AWP.seq ?_ | refine AWP.skip ?_ | refine AWP.label ?_ | refine AWP.exit ?_ | refine AWP.block ?_ | refine AWP.region hX kHE_ok rfl trivial ?_ | refine AWP.region hX kHE_ok rfl id ?_ | refine AWP.region hX kHE_ok rfl ⟨id, id⟩ ?_))
    refine AWP.ret ⟨.inr rfl, ?_, done1 rfl trivial rfl rfl rfl⟩
    show some (OObj.box rd (List.drop 1 ws, ())) = some (OObj.box rd (ws.tail, ()))
    rw [List.drop_one]
  · have ho : cPassP.out (ws, ()) (al, ()) = .error (pv (hdA ws, 3)) := by
      show toV _ (passP ws al) = _
      rw [show passP ws al = .error (hdA ws, 3) from if_neg hc]
      rfl
    rw [ho]
    refine AWP.cond rfl (fun hb => ?_) (fun hb => ?_)
    · (repeat (first | refine AWP.seq ?_ | refine AWP.skip ?_ | refine AWP.block ?_ | refine AWP.exit ?_)); refine AWP.list ?_
      refine AL.take 1 hX kHE_ok rfl trivial ?_
      refine AL.pcall hX fail_ok (c := cFailP) (x := (ws, ())) (xs := ((3 : Int), ())) rfl rfl rfl rfl rfl rfl rfl rfl rfl rfl trivial hp (one_inv (one_pH hX) hinv) (F' := fun _ => _) (fun _ => rfl) ?_
      exact fun x' => ⟨rfl, x', rfl⟩
    · have hb : (!decide (hdT ws ∈ al)) = false := hb
      rw [decide_eq_false hc] at hb
      cases hb
/-! ### numbers -/
theorem numF_cap : ∀ (l : List UInt8) (n : Nat), numF l 1000000 = some n → n = 1000000
  | [], n, h => (Option.some.inj h).symm
  | c :: r, n, h => by
    unfold numF at h
    split at h
    · cases h
    · rw [show min (10 * 1000000 + (c.toNat - 48)) 1000000 = 1000000 by omega] at h
      exact numF_cap r n h
theorem parse_num : ∀ (l : List UInt8) (acc n : Nat), numF l (min acc 1000000) = some n → (Lib.parseUint10 acc l = .range ∧ n = 1000000) ∨ ∃ u, Lib.parseUint10 acc l = .ok u ∧ n = min u 1000000
  | [], acc, n, h => .inr ⟨acc, rfl, (Option.some.inj h).symm⟩
  | c :: r, acc, n, h => by
    unfold numF at h
    unfold Lib.parseUint10
    split at h
    · cases h
    · rename_i hc
      rw [if_pos (by omega)]
      split
      · refine .inl ⟨rfl, numF_cap r n ?_⟩
        rw [← h]
        congr 1
        omega
      · split
        · refine .inl ⟨rfl, numF_cap r n ?_⟩
          rw [← h]
          congr 1
          omega
        · refine parse_num r _ n ?_
          rw [← h]
          congr 1
          omega
theorem numF_none : ∀ (l : List UInt8) (a : Nat), numF l a = none ↔ ∃ c ∈ l, c.toNat < 48 ∨ 57 < c.toNat
  | [], a => ⟨fun h => (by cases h), fun ⟨c, h, _⟩ => (by cases h)⟩
  | c :: r, a => by
    unfold numF
    by_cases hc : c.toNat < 48 ∨ 57 < c.toNat
    · rw [if_pos hc]
      exact ⟨fun _ => ⟨c, List.mem_cons_self .., hc⟩, fun _ => rfl⟩
    · rw [if_neg hc, numF_none r]
      constructor
      · rintro ⟨d, h1, h2⟩
        exact ⟨d, List.mem_cons_of_mem _ h1, h2⟩
      · rintro ⟨d, h1, h2⟩
        rcases List.mem_cons.1 h1 with rfl | h1
        · exact (hc h2).elim
        · exact ⟨d, h1, h2⟩
/-- a numeral that the package's parser takes -/
theorem atoi_num {w : List UInt8} (hw : (num w).2.1 = true) : ∃ n : Nat, (num w).1 = (n : Int) ∧ ((Lib.atoiAll w = .range ∧ n = 1000000) ∨ ∃ u : Nat, Lib.atoiAll w = .ok (u : Int) ∧ n = min u 1000000) := by
  unfold num at hw ⊢
  cases hn : numF w 0 with
  | none => rw [hn] at hw; cases hw
  | some n =>
    rw [hn] at hw
    refine ⟨n, rfl, ?_⟩
    have hw : numT w = true := hw
    cases w with
    | nil => exact absurd hw (by decide)
    | cons c r =>
      have hd : ¬ (c.toNat < 48 ∨ 57 < c.toNat) := fun h => by
        have := (numF_none (c :: r) 0).2 ⟨c, List.mem_cons_self .., h⟩
        rw [hn] at this
        cases this
      rw [Lib.atoiAll_plain c r (by omega) (by omega)]
      unfold Lib.parseMag
      rw [if_neg (by simp)]
      rcases parse_num (c :: r) 0 n hn with ⟨h1, h2⟩ | ⟨u, h1, h2⟩
      · rw [h1]
        exact .inl ⟨rfl, h2⟩
      · rw [h1]
        unfold Lib.signless
        by_cases hu : 9223372036854775808 ≤ u
        · exact .inl ⟨if_pos hu, by omega⟩
        · exact .inr ⟨u, if_neg hu, h2⟩
theorem mem_dropWhile {α : Type} {p : α → Bool} {x : α} : ∀ {l : List α}, x ∈ l → p x = false → x ∈ l.dropWhile p
  | y :: l, h, hp => by
    rw [List.dropWhile_cons]
    split
    · rename_i hy
      rcases List.mem_cons.1 h with rfl | h
      · rw [hp] at hy; cases hy
      · exact mem_dropWhile h hp
    · exact h
theorem trimS_nil {w ds : List UInt8} : Lib.trimS w ds = [] ↔ ∀ c ∈ w, c ∈ ds := by
  unfold Lib.trimS Lib.trimLeftS Lib.trimRightS
  constructor
  · intro h c hc
    refine Classical.byContradiction fun hn => ?_
    have hp : ds.contains c = false := by
      rw [Bool.eq_false_iff]
      intro e
      exact hn (List.contains_iff_mem.1 e)
    have h1 : c ∈ (w.reverse.dropWhile (ds.contains ·)).reverse := List.mem_reverse.2 (mem_dropWhile (p := (ds.contains ·)) (List.mem_reverse.2 hc) hp)
    have h2 := mem_dropWhile (p := (ds.contains ·)) h1 hp
    rw [h] at h2
    cases h2
  · intro h
    have key : ∀ l : List UInt8, (∀ c ∈ l, c ∈ ds) → l.dropWhile (ds.contains ·) = [] := fun l => by
      induction l with
      | nil => intro _; rfl
      | cons x r ih =>
        intro h
        rw [List.dropWhile_cons, if_pos (List.contains_iff_mem.2 (h x (List.mem_cons_self ..)))]
        exact ih fun c hc => h c (List.mem_cons_of_mem _ hc)
    have h1 : w.reverse.dropWhile (ds.contains ·) = [] := key _ fun c hc => h c (List.mem_reverse.1 hc)
    rw [h1]
    rfl
def digs : List UInt8 := [48, 49, 50, 51, 52, 53, 54, 55, 56, 57]
theorem mem_digs (c : UInt8) : c ∈ digs ↔ ¬ (c.toNat < 48 ∨ 57 < c.toNat) := by
  have key : ∀ n : Fin 256, (UInt8.ofNat n.val ∈ digs ↔ ¬ (n.val < 48 ∨ 57 < n.val)) := by decide
  have := key ⟨c.toNat, UInt8.toNat_lt c⟩
  simpa using this
/-- the package's test of a numeral -/
theorem num_bad (w : List UInt8) : (num w).2.1 = false ↔ w = [] ∨ Lib.trimS w digs ≠ [] ∨ (w.getD 0 0 = 48 ∧ w ≠ [48]) := by
  have ht : Lib.trimS w digs ≠ [] ↔ numF w 0 = none := by
    rw [numF_none, ne_eq, trimS_nil]
    constructor
    · intro h
      refine Classical.byContradiction fun hn => h fun c hc => (mem_digs c).2 fun h1 => hn ⟨c, hc, h1⟩
    · rintro ⟨c, h1, h2⟩ h
      exact (mem_digs c).1 (h c h1) h2
  rw [ht]
  unfold num
  cases hn : numF w 0 with
  | none => exact ⟨fun _ => .inr (.inl rfl), fun _ => rfl⟩
  | some n =>
    show numT w = false ↔ _
    unfold numT
    rw [Bool.or_eq_false_iff, decide_eq_false_iff_not, Bool.and_eq_false_iff, decide_eq_false_iff_not, decide_eq_false_iff_not]
    constructor
    · rintro ⟨h1, h2⟩
      rcases h2 with h2 | h2
      · exact .inl (List.eq_nil_of_length_eq_zero (by omega))
      · exact .inr (.inr ⟨Classical.byContradiction h2, h1⟩)
    · rintro (h | h | h)
      · subst h
        exact ⟨by decide, .inl (by decide)⟩
      · cases h
      · exact ⟨h.2, .inr fun h1 => h1 h.1⟩
def cTrim : Ctr := { args := [.str, .str], pre := fun x => [x.2.1 = digs], res := .str, own := none, out := fun x => Lib.trimS x.1 x.2.1 }
theorem trimS_len (w ds : List UInt8) : (Lib.trimS w ds).length ≤ w.length := by
  have key : ∀ l : List UInt8, (l.dropWhile (ds.contains ·)).length ≤ l.length := fun l => (List.dropWhile_sublist _).length_le
  unfold Lib.trimS Lib.trimLeftS Lib.trimRightS
  refine Nat.le_trans (key _) ?_
  rw [List.length_reverse]
  refine Nat.le_trans (key _) ?_
  rw [List.length_reverse]
  exact Nat.le_refl _
theorem trim_ok : CtrOk Tryz.prog pH 116 cTrim := by
  refine ⟨Tryz.call116, fun w O xs vs hO hr hp hG => ?_⟩
  obtain ⟨(s : List UInt8), (d : List UInt8), _⟩ := xs
  have hp : d = digs := hp
  subst hp
  obtain ⟨v1, r1, rfl, e1, v2, r2, rfl, e2, rfl⟩ := hr
  have e1 : [v1] = [Value.string ⟨s.toArray⟩] ∧ s.length ≤ maxLen := e1
  have e2 : [v2] = [Value.string ⟨digs.toArray⟩] ∧ digs.length ≤ maxLen := e2
  obtain ⟨e1, hs⟩ := e1
  obtain ⟨e2, _⟩ := e2
  cases e1
  cases e2
  have hcon := Any.strings_Trim_laid Tryz.lays160 (by kernel_rfl) ⟨s.toArray⟩ ⟨digs.toArray⟩ w (by show s.length ≤ 9223372036854775807; unfold maxLen at hs; omega) (by decide) (ascii_of_all (by decide))
  refine Calls.mono hcon ?_
  rintro e w' ⟨rfl, hb⟩
  refine ⟨_, rfl, hb, fun β => ?_⟩
  exact ⟨rfl, Nat.le_trans (trimS_len s digs) hs⟩
end Go.Proofs.YthkhgpbjfcmopaaGreatDoor
