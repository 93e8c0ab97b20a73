/-
  Package policy: the reader's methods, which panic at a wrong word: fail, pass.
  Package policy: the reader's method number.
  Package policy: the reader's method grant.
-/
import Derived.Test.YthkhgpbjfcmopaaGreatDoorPPlB
import Derived.Test.YthkhgpbjfcmopaaGreatDoorPPrgE
import Derived.Test.YthkhgpbjfcmopaaGreatDoorPPrgH
import Derived.Test.YthkhgpbjfcmopaaGreatDoorAbsPan
namespace Go.Proofs.YthkhgpbjfcmopaaGreatDoor
open Go Go.RowKit
set_option linter.unusedSimpArgs false
set_option linter.unusedVariables false
set_option maxRecDepth 100000
/-- no variable of the library's lies in this block -/
def pN (_ : World) (g : Nat) : Prop := g ≠ 3 ∧ g ≠ 5
theorem pN_st (w w' : World) (g : Nat) (h : pN w g) (hG : pH w) (hk : Kept (fun h => h = g) w w') : pH w' := pH_kept (fun e => h.1 e.symm) (fun e => h.2 e.symm) hG hk
/-- the value that the parser panics with -/
def pv (e : Int × Int) : Value := .iface 100 (.agg #[.int .i64 e.1, .int .i64 e.2])
def toV {α β : Type} (f : α → β) : Except (Int × Int) α → Except Value β
  | .error e => .error (pv e)
  | .ok a => .ok (f a)
theorem run_mkIface {P : Program} {w : World} {t : TypeId} {fs : Array Field} (h : P.underlying t = some (.struct fs)) (x : Value) : (Instr.makeInterface t x).run P w = .ok (.iface t x) w := by
  unfold Instr.makeInterface
  simp [run_underlying h]
def cFailP : PCtr := { self := rd, args := [i64], inv := pN, pre := fun r _ => [0 < List.length r.1], res := .unit, out := fun r xs => .error (pv (hdA r.1, xs.1)) }
theorem fail_ok : PCtrOk Tryz.prog pH 64 cFailP := by
  refine pctr_of_awp (K := pK) hK_ok Tryz.func64 rfl rfl Tryz.call64 rfl (by decide) pN_st ?_
  rintro w0 O g hX hinv ⟨(ws : List Wd), _⟩ ⟨(e : Int), _⟩ hp
  have hp : 0 < ws.length := hp
  change AWP _ _ _ _ _ ⟨[(0, ⟨.optr rd, ⟨0, rd, .here⟩⟩), (1, ⟨i64, e⟩)], [(0, some (.box rd (ws, ())))], 1⟩ _
  (repeat (first | refine AWP.seq ?_ | refine AWP.skip ?_ | refine AWP.block ?_ | refine AWP.exit ?_)); refine AWP.list ?_
  refine AL.take 9 hX hK_ok rfl ?_ ?_
  · exact ⟨Int.le_refl _, by show (0 : Int) < (ws.length : Nat); omega⟩
  refine AL.hand rfl (fun c e => by cases e) fun β a w' hs => ?_
  have h12 : RepD w' _ fl (hdA ws, e, ()) (a.eval (.tmp 12)) := hs.ops (.tmp 12)
  obtain ⟨cs, h1, c1, c2, rfl, h2, c3, c4, rfl, h3, h4⟩ := (RepD.agg rfl).1 h12
  have h2 : c1 = [Value.int .i64 (hdA ws)] := h2
  have h3 : c3 = [Value.int .i64 e] := h3
  have h4 : c4 = [] := h4
  subst h2; subst h3; subst h4
  have h1 : a.eval (.tmp 12) = .agg #[.int .i64 (hdA ws), .int .i64 e] := h1
  refine wp_run (u := pv (hdA ws, e)) (w' := w') ?_ ⟨⟨(13, ⟨.lit, pv (hdA ws, e)⟩) :: _, _, _⟩, β, hs.put (Below.refl _ _) (v := ⟨.lit, pv (hdA ws, e)⟩) rfl (Nat.zero_le _) (by show 13 < 14; omega), ?_⟩
  · show (execOp a.eval { dst := some 13, op := Op.makeInterface 100 (.tmp 12), type := _, pos := _, after := _, guard := none }).run _ _ = _
    unfold execOp
    simp only [h1]
    exact run_v (run_mkIface Tryz.underlying100 _)
  refine AL.hand rfl (fun c e => by cases e) fun β a w' hs => ?_
  have h13 : a.eval (.tmp 13) = pv (hdA ws, e) := hs.ops (.tmp 13)
  have hrun : (execOp a.eval { dst := none, op := Op.panic (.tmp 13), type := 0, pos := "", after := #[], guard := none }).run Tryz.prog w' = .halt (.panic (pv (hdA ws, e))) w' := by
    unfold execOp
    simp only [h13]
    simp [pv, run_panic_iface]
  unfold Oper.wp
  erw [hrun]
  exact ⟨fun e => (by cases e), _, β, hs, rfl, _, rfl⟩
def cPassP : PCtr := { self := rd, args := [.slice .str], inv := pN, pre := fun r _ => [0 < List.length r.1], res := .str, out := fun r xs => toV (fun y => (y.1, (y.2, ()))) (passP r.1 xs.1) }
def kHE : Kn := { pK with C := [(115, cHasS)] }
theorem kHE_ok : KnOk Tryz.prog pH kHE := hK_ok.with (.cons containsS_ok.lift .nil)
theorem one_inv {w0 : World} {O : Nat → Prop} {g : Nat} (hG : pH w0) (hn : pN w0 g) : ∀ (w : World) (k : Nat), (w0.heap.size ≤ k ∨ (Ownr.one pH O g).R k) → pH w → pN w k := fun w k h _ => by
  have hl := pH_lt hG
  rcases h with h | ⟨i, hi, h⟩
  · exact ⟨fun e => hl.1 (e ▸ h), fun e => hl.2 (e ▸ h)⟩
  · have h : g = k := h
    exact h ▸ hn
theorem one_pH {w0 : World} {O : Nat → Prop} {g : Nat} (hX : (Ownr.one pH O g).Ok w0) : pH w0 := hX.2.2 w0 (Kept.refl _ _)
theorem pass_ok : PCtrOk Tryz.prog pH 95 cPassP := by
  refine pctr_of_awp (K := kHE) kHE_ok Tryz.func95 rfl rfl Tryz.call95 rfl (by decide) pN_st ?_
  rintro w0 O g hX hinv ⟨(ws : List Wd), _⟩ ⟨(al : List (List UInt8)), _⟩ hp
  have hp : 0 < ws.length := hp
  change AWP _ _ _ _ _ ⟨[(0, ⟨.optr rd, ⟨0, rd, .here⟩⟩), (1, ⟨.slice .str, al⟩)], [(0, some (.box rd (ws, ())))], 1⟩ _
  (repeat (first | refine AWP.seq ?_ | refine AWP.skip ?_ | refine AWP.label ?_ | refine AWP.exit ?_ | refine AWP.block ?_ | refine AWP.region hX kHE_ok rfl trivial ?_ | refine AWP.region hX kHE_ok rfl id ?_ | refine AWP.region hX kHE_ok rfl ⟨id, id⟩ ?_))
  (repeat (first | refine AWP.seq ?_ | refine AWP.skip ?_ | refine AWP.block ?_ | refine AWP.exit ?_)); refine AWP.region hX kHE_ok rfl ?_ ?_
  · exact ⟨Int.le_refl _, by show (0 : Int) < (ws.length : Nat); omega⟩
  (repeat (first | refine AWP.seq ?_ | refine AWP.skip ?_ | refine AWP.label ?_ | refine AWP.exit ?_ | refine AWP.block ?_ | refine AWP.region hX kHE_ok rfl trivial ?_ | refine AWP.region hX kHE_ok rfl id ?_ | refine AWP.region hX kHE_ok rfl ⟨id, id⟩ ?_))
  by_cases hc : hdT ws ∈ al
  · have ho : cPassP.out (ws, ()) (al, ()) = .ok (hdT ws, (ws.tail, ())) := by
      show toV _ (passP ws al) = _
      rw [show passP ws al = .ok (hdT ws, ws.tail) from if_pos hc]
      rfl
    rw [ho]
    refine AWP.cond rfl (fun hb => ?_) (fun hb => ?_)
    · have hb : (!decide (hdT ws ∈ al)) = true := hb
      rw [decide_eq_true hc] at hb
      cases hb
    (repeat (first | refine AWP.seq ?_ | refine AWP.skip ?_ | refine AWP.label ?_ | refine AWP.exit ?_ | refine AWP.block ?_ | refine AWP.region hX kHE_ok rfl trivial ?_ | refine AWP.region hX kHE_ok rfl id ?_ | refine AWP.region hX kHE_ok rfl ⟨id, id⟩ ?_))
    (repeat (first | refine AWP.seq ?_ | refine AWP.skip ?_ | refine AWP.block ?_ | refine AWP.exit ?_)); refine AWP.region hX kHE_ok rfl ?_ ?_
    · exact ⟨by decide, by show (1 : Int) ≤ (ws.length : Nat); omega⟩
    (repeat (first | refine AWP.seq ?_ | refine AWP.skip ?_ | refine AWP.label ?_ | refine AWP.exit ?_ | refine AWP.block ?_ | refine AWP.region hX kHE_ok rfl trivial ?_ | refine AWP.region hX kHE_ok rfl id ?_ | refine AWP.region hX kHE_ok rfl ⟨id, id⟩ ?_))
    refine AWP.ret ⟨.inr rfl, ?_, done1 rfl trivial rfl rfl rfl⟩
    show some (OObj.box rd (List.drop 1 ws, ())) = some (OObj.box rd (ws.tail, ()))
    rw [List.drop_one]
  · have ho : cPassP.out (ws, ()) (al, ()) = .error (pv (hdA ws, 3)) := by
      show toV _ (passP ws al) = _
      rw [show passP ws al = .error (hdA ws, 3) from if_neg hc]
      rfl
    rw [ho]
    refine AWP.cond rfl (fun hb => ?_) (fun hb => ?_)
    · (repeat (first | refine AWP.seq ?_ | refine AWP.skip ?_ | refine AWP.block ?_ | refine AWP.exit ?_)); refine AWP.list ?_
      refine AL.take 1 hX kHE_ok rfl trivial ?_
      refine AL.pcall hX fail_ok (c := cFailP) (x := (ws, ())) (xs := ((3 : Int), ())) rfl rfl rfl rfl rfl rfl rfl rfl rfl rfl trivial hp (one_inv (one_pH hX) hinv) (F' := fun _ => _) (fun _ => rfl) ?_
      exact fun x' => ⟨rfl, x', rfl⟩
    · have hb : (!decide (hdT ws ∈ al)) = false := hb
      rw [decide_eq_false hc] at hb
      cases hb
/-! ### numbers -/
theorem numF_cap : ∀ (l : List UInt8) (n : Nat), numF l 1000000 = some n → n = 1000000
  | [], n, h => (Option.some.inj h).symm
  | c :: r, n, h => by
    unfold numF at h
    split at h
    · cases h
    · rw [show min (10 * 1000000 + (c.toNat - 48)) 1000000 = 1000000 by omega] at h
      exact numF_cap r n h
theorem parse_num : ∀ (l : List UInt8) (acc n : Nat), numF l (min acc 1000000) = some n → (Lib.parseUint10 acc l = .range ∧ n = 1000000) ∨ ∃ u, Lib.parseUint10 acc l = .ok u ∧ n = min u 1000000
  | [], acc, n, h => .inr ⟨acc, rfl, (Option.some.inj h).symm⟩
  | c :: r, acc, n, h => by
    unfold numF at h
    unfold Lib.parseUint10
    split at h
    · cases h
    · rename_i hc
      rw [if_pos (by omega)]
      split
      · refine .inl ⟨rfl, numF_cap r n ?_⟩
        rw [← h]
        congr 1
        omega
      · split
        · refine .inl ⟨rfl, numF_cap r n ?_⟩
          rw [← h]
          congr 1
          omega
        · refine parse_num r _ n ?_
          rw [← h]
          congr 1
          omega
theorem numF_none : ∀ (l : List UInt8) (a : Nat), numF l a = none ↔ ∃ c ∈ l, c.toNat < 48 ∨ 57 < c.toNat
  | [], a => ⟨fun h => (by cases h), fun ⟨c, h, _⟩ => (by cases h)⟩
  | c :: r, a => by
    unfold numF
    by_cases hc : c.toNat < 48 ∨ 57 < c.toNat
    · rw [if_pos hc]
      exact ⟨fun _ => ⟨c, List.mem_cons_self .., hc⟩, fun _ => rfl⟩
    · rw [if_neg hc, numF_none r]
      constructor
      · rintro ⟨d, h1, h2⟩
        exact ⟨d, List.mem_cons_of_mem _ h1, h2⟩
      · rintro ⟨d, h1, h2⟩
        rcases List.mem_cons.1 h1 with rfl | h1
        · exact (hc h2).elim
        · exact ⟨d, h1, h2⟩
/-- a numeral that the package's parser takes -/
theorem atoi_num {w : List UInt8} (hw : (num w).2.1 = true) : ∃ n : Nat, (num w).1 = (n : Int) ∧ ((Lib.atoiAll w = .range ∧ n = 1000000) ∨ ∃ u : Nat, Lib.atoiAll w = .ok (u : Int) ∧ n = min u 1000000) := by
  unfold num at hw ⊢
  cases hn : numF w 0 with
  | none => rw [hn] at hw; cases hw
  | some n =>
    rw [hn] at hw
    refine ⟨n, rfl, ?_⟩
    have hw : numT w = true := hw
    cases w with
    | nil => exact absurd hw (by decide)
    | cons c r =>
      have hd : ¬ (c.toNat < 48 ∨ 57 < c.toNat) := fun h => by
        have := (numF_none (c :: r) 0).2 ⟨c, List.mem_cons_self .., h⟩
        rw [hn] at this
        cases this
      rw [Lib.atoiAll_plain c r (by omega) (by omega)]
      unfold Lib.parseMag
      rw [if_neg (by simp)]
      rcases parse_num (c :: r) 0 n hn with ⟨h1, h2⟩ | ⟨u, h1, h2⟩
      · rw [h1]
        exact .inl ⟨rfl, h2⟩
      · rw [h1]
        unfold Lib.signless
        by_cases hu : 9223372036854775808 ≤ u
        · exact .inl ⟨if_pos hu, by omega⟩
        · exact .inr ⟨u, if_neg hu, h2⟩
theorem mem_dropWhile {α : Type} {p : α → Bool} {x : α} : ∀ {l : List α}, x ∈ l → p x = false → x ∈ l.dropWhile p
  | y :: l, h, hp => by
    rw [List.dropWhile_cons]
    split
    · rename_i hy
      rcases List.mem_cons.1 h with rfl | h
      · rw [hp] at hy; cases hy
      · exact mem_dropWhile h hp
    · exact h
theorem trimS_nil {w ds : List UInt8} : Lib.trimS w ds = [] ↔ ∀ c ∈ w, c ∈ ds := by
  unfold Lib.trimS Lib.trimLeftS Lib.trimRightS
  constructor
  · intro h c hc
    refine Classical.byContradiction fun hn => ?_
    have hp : ds.contains c = false := by
      rw [Bool.eq_false_iff]
      intro e
      exact hn (List.contains_iff_mem.1 e)
    have h1 : c ∈ (w.reverse.dropWhile (ds.contains ·)).reverse := List.mem_reverse.2 (mem_dropWhile (p := (ds.contains ·)) (List.mem_reverse.2 hc) hp)
    have h2 := mem_dropWhile (p := (ds.contains ·)) h1 hp
    rw [h] at h2
    cases h2
  · intro h
    have key : ∀ l : List UInt8, (∀ c ∈ l, c ∈ ds) → l.dropWhile (ds.contains ·) = [] := fun l => by
      induction l with
      | nil => intro _; rfl
      | cons x r ih =>
        intro h
        rw [List.dropWhile_cons, if_pos (List.contains_iff_mem.2 (h x (List.mem_cons_self ..)))]
        exact ih fun c hc => h c (List.mem_cons_of_mem _ hc)
    have h1 : w.reverse.dropWhile (ds.contains ·) = [] := key _ fun c hc => h c (List.mem_reverse.1 hc)
    rw [h1]
    rfl
def digs : List UInt8 := [48, 49, 50, 51, 52, 53, 54, 55, 56, 57]
theorem mem_digs (c : UInt8) : c ∈ digs ↔ ¬ (c.toNat < 48 ∨ 57 < c.toNat) := by
  have key : ∀ n : Fin 256, (UInt8.ofNat n.val ∈ digs ↔ ¬ (n.val < 48 ∨ 57 < n.val)) := by decide
  have := key ⟨c.toNat, UInt8.toNat_lt c⟩
  simpa using this
/-- the package's test of a numeral -/
theorem num_bad (w : List UInt8) : (num w).2.1 = false ↔ w = [] ∨ Lib.trimS w digs ≠ [] ∨ (w.getD 0 0 = 48 ∧ w ≠ [48]) := by
  have ht : Lib.trimS w digs ≠ [] ↔ numF w 0 = none := by
    rw [numF_none, ne_eq, trimS_nil]
    constructor
    · intro h
      refine Classical.byContradiction fun hn => h fun c hc => (mem_digs c).2 fun h1 => hn ⟨c, hc, h1⟩
    · rintro ⟨c, h1, h2⟩ h
      exact (mem_digs c).1 (h c h1) h2
  rw [ht]
  unfold num
  cases hn : numF w 0 with
  | none => exact ⟨fun _ => .inr (.inl rfl), fun _ => rfl⟩
  | some n =>
    show numT w = false ↔ _
    unfold numT
    rw [Bool.or_eq_false_iff, decide_eq_false_iff_not, Bool.and_eq_false_iff, decide_eq_false_iff_not, decide_eq_false_iff_not]
    constructor
    · rintro ⟨h1, h2⟩
      rcases h2 with h2 | h2
      · exact .inl (List.eq_nil_of_length_eq_zero (by omega))
      · exact .inr (.inr ⟨Classical.byContradiction h2, h1⟩)
    · rintro (h | h | h)
      · subst h
        exact ⟨by decide, .inl (by decide)⟩
      · cases h
      · exact ⟨h.2, .inr fun h1 => h1 h.1⟩
def cTrim : Ctr := { args := [.str, .str], pre := fun x => [x.2.1 = digs], res := .str, own := none, out := fun x => Lib.trimS x.1 x.2.1 }
theorem trimS_len (w ds : List UInt8) : (Lib.trimS w ds).length ≤ w.length := by
  have key : ∀ l : List UInt8, (l.dropWhile (ds.contains ·)).length ≤ l.length := fun l => (List.dropWhile_sublist _).length_le
  unfold Lib.trimS Lib.trimLeftS Lib.trimRightS
  refine Nat.le_trans (key _) ?_
  rw [List.length_reverse]
  refine Nat.le_trans (key _) ?_
  rw [List.length_reverse]
  exact Nat.le_refl _
theorem trim_ok : CtrOk Tryz.prog pH 116 cTrim := by
  refine ⟨Tryz.call116, fun w O xs vs hO hr hp hG => ?_⟩
  obtain ⟨(s : List UInt8), (d : List UInt8), _⟩ := xs
  have hp : d = digs := hp
  subst hp
  obtain ⟨v1, r1, rfl, e1, v2, r2, rfl, e2, rfl⟩ := hr
  have e1 : [v1] = [Value.string ⟨s.toArray⟩] ∧ s.length ≤ maxLen := e1
  have e2 : [v2] = [Value.string ⟨digs.toArray⟩] ∧ digs.length ≤ maxLen := e2
  obtain ⟨e1, hs⟩ := e1
  obtain ⟨e2, _⟩ := e2
  cases e1
  cases e2
  have hcon := Any.strings_Trim_laid Tryz.lays160 (by kernel_rfl) ⟨s.toArray⟩ ⟨digs.toArray⟩ w (by show s.length ≤ 9223372036854775807; unfold maxLen at hs; omega) (by decide) (ascii_of_all (by decide))
  refine Calls.mono hcon ?_
  rintro e w' ⟨rfl, hb⟩
  refine ⟨_, rfl, hb, fun β => ?_⟩
  exact ⟨rfl, Nat.le_trans (trimS_len s digs) hs⟩
end Go.Proofs.YthkhgpbjfcmopaaGreatDoor
namespace Go.Proofs.YthkhgpbjfcmopaaGreatDoor
open Go Go.RowKit
set_option linter.unusedSimpArgs false
set_option linter.unusedVariables false
set_option maxRecDepth 100000
/-- what Atoi hands back at a numeral -/
def AtoiEnd (s : List UInt8) (v : Int) (ev : Value) : Prop := (ev = .nilIface ∧ ∃ u : Nat, v = u ∧ (num s).1 = ((min u 1000000 : Nat) : Int)) ∨ ((∃ t p, ev = .iface t p) ∧ (num s).1 = 1000000)
theorem atoi_call {s : List UInt8} (hs : (num s).2.1 = true) (hl : s.length ≤ 100000) (w : World) (hG : pH w) :
    Calls Tryz.prog 117 #[.string ⟨s.toArray⟩] w fun e w' => ∃ v ev, e = .returned (.tuple #[.int .i64 v, ev]) ∧ Below w.heap.size w w' ∧ AtoiEnd s v ev := by
  obtain ⟨n, hn, h⟩ := atoi_num hs
  rcases h with ⟨h1, h2⟩ | ⟨u, h1, h2⟩
  · obtain ⟨ev, hv, hev⟩ := hG.2
    refine Calls.mono (Any.strconv_Atoi_range Tryz.lays172 ⟨s.toArray⟩ (by show s.length ≤ 281474976710656; omega) h1 ev w hv hev) ?_
    rintro e w' ⟨N, rfl, _, _, hb⟩
    exact ⟨_, _, rfl, hb, .inr ⟨⟨_, _, rfl⟩, by rw [hn, h2]; rfl⟩⟩
  · refine Calls.mono (Any.strconv_Atoi_ok Tryz.lays172 ⟨s.toArray⟩ (by show s.length ≤ 9223372036854775806; omega) (u : Int) h1 w) ?_
    rintro e w' ⟨rfl, hw⟩
    refine ⟨_, _, rfl, ?_, .inl ⟨rfl, u, rfl, by rw [hn, h2]⟩⟩
    rcases hw with rfl | ⟨t, rfl⟩
    · exact Below.refl _ _
    · exact Lib.bytesWorld_below _ _ _
theorem num_test (s : List UInt8) (d : Bool) (hd : d = decide (s.getD 0 0 = 48)) : (bif (bif eqb .str s [] then true else !eqb .str (Lib.trimS s digs) []) then true else bif d then !eqb .str s [48] else false) = true ↔ (num s).2.1 = false := by
  rw [num_bad, hd, eqb_decide, eqb_decide, eqb_decide]
  by_cases h1 : s = []
  · rw [decide_eq_true h1]
    exact ⟨fun _ => .inl h1, fun _ => rfl⟩
  · rw [decide_eq_false h1]
    by_cases h2 : Lib.trimS s digs = []
    · rw [decide_eq_true h2]
      by_cases h3 : s.getD 0 0 = 48
      · rw [decide_eq_true h3]
        by_cases h4 : s = [48]
        · rw [decide_eq_true h4]
          exact ⟨fun h => (by cases h), fun h => h.elim (fun h => (h1 h).elim) (fun h => h.elim (fun h => (h h2).elim) fun h => (h.2 h4).elim)⟩
        · rw [decide_eq_false h4]
          exact ⟨fun _ => .inr (.inr ⟨h3, h4⟩), fun _ => rfl⟩
      · rw [decide_eq_false h3]
        exact ⟨fun h => (by cases h), fun h => h.elim (fun h => (h1 h).elim) (fun h => h.elim (fun h => (h h2).elim) fun h => (h3 h.1).elim)⟩
    · rw [decide_eq_false h2]
      exact ⟨fun _ => .inr (.inl h2), fun _ => rfl⟩
def notNil : Value → Bool
  | .nilIface => false
  | _ => true
theorem errT : Tryz.prog.underlying 83 = some (.interface (Tryz.prog.methodsAt 83)) := by kernel_rfl
/-- an error is compared with nil -/
theorem neqNil {a : Act} {w : World} {x : Operand} {d : Nat} {ty : TypeId} {pos : String} {af : Array Edge} {ev : Value} (hx : a.eval x = ev) (he : ev = .nilIface ∨ ∃ t p, ev = .iface t p) :
    (execOp a.eval { dst := some d, op := Op.binOp .neq 83 x (.const .nilIface) 83, type := ty, pos := pos, after := af, guard := none }).run Tryz.prog w = .ok (.value (.bool (notNil ev))) w := by
  have hn : a.eval (.const .nilIface) = .nilIface := rfl
  unfold execOp
  rcases he with rfl | ⟨t, p, rfl⟩
  · simp [hx, hn, eqGuard, run_neq_nil_nil _ _ errT, notNil]
  · simp [hx, hn, eqGuard, run_neq_held_nil _ _ _ _ errT, notNil]
def cNumP : PCtr := { self := rd, args := [i64], inv := pN, pre := fun r xs => [0 < List.length r.1, List.length (hdT r.1) ≤ 100000, 0 ≤ xs.1, xs.1 < 1000000], res := i64, out := fun r xs => toV (fun y => (y.1, (y.2, ()))) (numP r.1 xs.1) }
def kHF : Kn := { pK with C := [(116, cTrim)] }
theorem kHF_ok : KnOk Tryz.prog pH kHF := hK_ok.with (.cons trim_ok .nil)
theorem number_ok : PCtrOk Tryz.prog pH 96 cNumP := by
  refine pctr_of_awp (K := kHF) kHF_ok Tryz.func96 rfl rfl Tryz.call96 rfl (by decide) pN_st ?_
  rintro w0 O g hX hinv ⟨(ws : List Wd), _⟩ ⟨(m : Int), _⟩ hp
  obtain ⟨hp, hwl, hm0, hm1⟩ : 0 < ws.length ∧ (hdT ws).length ≤ 100000 ∧ 0 ≤ m ∧ m < 1000000 := hp
  change AWP _ _ _ _ _ ⟨[(0, ⟨.optr rd, ⟨0, rd, .here⟩⟩), (1, ⟨i64, m⟩)], [(0, some (.box rd (ws, ())))], 1⟩ _
  (repeat (first | refine AWP.seq ?_ | refine AWP.skip ?_ | refine AWP.label ?_ | refine AWP.exit ?_ | refine AWP.block ?_ | refine AWP.region hX kHF_ok rfl trivial ?_ | refine AWP.region hX kHF_ok rfl id ?_ | refine AWP.region hX kHF_ok rfl ⟨id, id⟩ ?_))
  (repeat (first | refine AWP.seq ?_ | refine AWP.skip ?_ | refine AWP.block ?_ | refine AWP.exit ?_)); refine AWP.region hX kHF_ok rfl ?_ ?_
  · exact ⟨Int.le_refl _, by show (0 : Int) < (ws.length : Nat); omega⟩
  refine AWP.fit (σ' := ⟨[(0, ⟨.optr rd, ⟨0, rd, .here⟩⟩), (1, ⟨i64, m⟩), (5, ⟨.str, hdT ws⟩)], [(0, some (.box rd (ws, ())))], 1⟩) ⟨⟨rfl, rfl, rfl, trivial⟩, ⟨rfl, trivial⟩, rfl, rfl⟩ ?_
  have hO : cNumP.out (ws, ()) (m, ()) = toV (fun y => (y.1, (y.2, ()))) (numP ws m) := rfl
  rw [hO]
  unfold numP
  generalize hw : hdT ws = s at hwl ⊢
  have hpos : ∀ x : Bool, (!bif eqb .str s [] then true else x) = true → (0 : Int) < ((List.length s : Nat) : Int) := fun x h => by
    rw [eqb_decide] at h
    by_cases hs : s = []
    · rw [decide_eq_true hs] at h; cases h
    · have := List.length_pos_iff.2 hs
      omega
  (repeat (first | refine AWP.seq ?_ | refine AWP.skip ?_ | refine AWP.block ?_ | refine AWP.exit ?_)); refine AWP.region hX kHF_ok rfl ?_ ?_
  · refine ⟨fun h => ⟨h, rfl⟩, fun h => h, fun h => h, fun h => ⟨h, Int.le_refl _, hpos _ h⟩, fun h => h, fun h => h, ⟨fun h => ⟨by rw [Bool.and_eq_true]; exact ⟨h, h⟩, fun h2 => by rw [Bool.and_eq_true, Bool.and_eq_true]; exact ⟨⟨h, h⟩, h2⟩⟩, ?_⟩⟩
    exact fun h => h
  have ht := num_test s _ (show ((((s.getD (Int.toNat 0) 0).toNat : Nat) : Int) == ((UInt8.toNat 48 : Nat) : Int)) = decide (s.getD 0 0 = 48) by
    rw [Bool.eq_iff_iff, beq_iff_eq, decide_eq_true_iff]
    show (((s.getD 0 0).toNat : Nat) : Int) = ((UInt8.toNat 48 : Nat) : Int) ↔ _
    rw [Int.natCast_inj]
    exact UInt8.toNat_inj)
  refine AWP.cond rfl (fun hb => ?_) (fun hb => ?_)
  · have hb := ht.1 hb
    rw [if_pos hb]
    (repeat (first | refine AWP.seq ?_ | refine AWP.skip ?_ | refine AWP.block ?_ | refine AWP.exit ?_)); refine AWP.list ?_
    refine AL.take 1 hX kHF_ok rfl trivial ?_
    refine AL.pcall hX fail_ok (c := cFailP) (x := (ws, ())) (xs := ((3 : Int), ())) rfl rfl rfl rfl rfl rfl rfl rfl rfl rfl trivial hp (one_inv (one_pH hX) hinv) (F' := fun _ => _) (fun _ => rfl) ?_
    exact fun x' => ⟨rfl, x', rfl⟩
  have hgood : ¬ (num s).2.1 = false := fun h => Bool.noConfusion (hb.symm.trans (ht.2 h))
  have hgood1 : (num s).2.1 = true := by simpa using hgood
  rw [if_neg hgood]
  (repeat (first | refine AWP.seq ?_ | refine AWP.skip ?_ | refine AWP.label ?_ | refine AWP.exit ?_ | refine AWP.block ?_ | refine AWP.region hX kHF_ok rfl trivial ?_ | refine AWP.region hX kHF_ok rfl id ?_ | refine AWP.region hX kHF_ok rfl ⟨id, id⟩ ?_))
  refine AWP.fit (σ' := ⟨[(0, ⟨.optr rd, ⟨0, rd, .here⟩⟩), (1, ⟨i64, m⟩), (5, ⟨.str, s⟩)], [(0, some (.box rd (ws, ())))], 1⟩) ⟨⟨rfl, rfl, rfl, trivial⟩, ⟨rfl, trivial⟩, rfl, rfl⟩ ?_
  refine AWP.list ?_
  refine AL.take 1 hX kHF_ok rfl trivial ?_
  refine AL.hand rfl (fun c e => by cases e) fun β a w' hs => ?_
  have h34 : a.eval (.tmp 34) = .string ⟨s.toArray⟩ := (RepV.str (hs.ops (.tmp 34))).1
  refine wp_enter (f := 117) rfl Tryz.call117 ?_
  show Calls _ _ ((#[Operand.tmp 34].toList.map a.eval).toArray) _ _
  rw [show ((#[Operand.tmp 34].toList.map a.eval).toArray : Array Value) = #[.string ⟨s.toArray⟩] by show #[a.eval (.tmp 34)] = _; rw [h34]]
  refine (atoi_call hgood1 hwl w' (hX.2.2 w' hs.bel)).mono ?_
  rintro e w'' ⟨v, ev, rfl, hb2, hend⟩
  refine ⟨_, rfl, ⟨(35, ⟨.lit, .tuple #[.int .i64 v, ev]⟩) :: _, _, _⟩, β, hs.put hb2 (v := ⟨.lit, .tuple #[.int .i64 v, ev]⟩) rfl (Nat.zero_le _) (by show 35 < 56; omega), ?_⟩
  refine AL.take 1 hX kHF_ok rfl trivial ?_
  refine AL.hand rfl (fun c e => by cases e) fun β a w' hs => ?_
  have h33 : a.eval (.tmp 33) = .tuple #[.int .i64 v, ev] := hs.ops (.tmp 33)
  refine wp_run (u := .int .i64 v) (w' := w') ?_ ⟨⟨(36, ⟨i64, v⟩) :: _, _, _⟩, β, hs.put (Below.refl _ _) (v := ⟨i64, v⟩) (RepV.ofInt (k := .i64)) (Nat.zero_le _) (by show 36 < 56; omega), ?_⟩
  · show (execOp a.eval { dst := some 36, op := Op.extract (.tmp 33) 0, type := _, pos := _, after := _, guard := none }).run _ _ = _
    unfold execOp
    simp [h33, Instr.extract]
  refine AL.hand rfl (fun c e => by cases e) fun β a w' hs => ?_
  have h33 : a.eval (.tmp 33) = .tuple #[.int .i64 v, ev] := hs.ops (.tmp 33)
  refine wp_run (u := ev) (w' := w') ?_ ⟨⟨(37, ⟨.lit, ev⟩) :: _, _, _⟩, β, hs.put (Below.refl _ _) (v := ⟨.lit, ev⟩) rfl (Nat.zero_le _) (by show 37 < 56; omega), ?_⟩
  · show (execOp a.eval { dst := some 37, op := Op.extract (.tmp 33) 1, type := _, pos := _, after := _, guard := none }).run _ _ = _
    unfold execOp
    simp [h33, Instr.extract]
  refine AL.all hX kHF_ok rfl trivial ?_
  refine AWP.fit (σ' := ⟨[(0, ⟨.optr rd, ⟨0, rd, .here⟩⟩), (1, ⟨i64, m⟩), (6, ⟨i64, v⟩), (7, ⟨.lit, ev⟩)], [(0, some (.box rd (ws, ())))], 1⟩) ⟨⟨rfl, rfl, rfl, rfl, trivial⟩, ⟨rfl, trivial⟩, rfl, rfl⟩ ?_
  refine AWP.seq ?_
  refine AWP.seq (AWP.list ?_)
  refine AL.take 1 hX kHF_ok rfl trivial ?_
  refine AL.hand rfl (fun c e => by cases e) fun β a w' hs => ?_
  have h38 : a.eval (.tmp 38) = ev := hs.ops (.tmp 38)
  obtain ⟨b, hbv⟩ : ∃ b, b = notNil ev := ⟨_, rfl⟩
  refine wp_run (u := .bool b) (w' := w') (by rw [hbv]; exact neqNil h38 (hend.imp (fun h => h.1) (fun h => h.1))) ⟨⟨(39, ⟨.bool, b⟩) :: _, _, _⟩, β, hs.put (Below.refl _ _) (v := ⟨.bool, b⟩) RepV.ofBool (Nat.zero_le _) (by show 39 < 56; omega), ?_⟩
  have hover : (bif b then true else decide (v > m)) = true ↔ (num s).1 > m := by
    rcases hend with ⟨rfl, u, rfl, hn⟩ | ⟨⟨t, p, rfl⟩, hn⟩
    · rw [hbv, hn]
      show decide ((u : Int) > m) = true ↔ _
      rw [decide_eq_true_iff]
      omega
    · rw [hbv, hn]
      exact ⟨fun _ => (by omega), fun _ => rfl⟩
  refine AL.all hX kHF_ok rfl ?_ ?_
  · exact ⟨fun h => ⟨h, h⟩, fun h => h⟩
  refine AWP.cond rfl (fun hb => ?_) (fun hb => ?_)
  · have hb : (bif b then true else decide (v > m)) = true := hb
    rw [if_pos (hover.1 hb)]
    (repeat (first | refine AWP.seq ?_ | refine AWP.skip ?_ | refine AWP.block ?_ | refine AWP.exit ?_)); refine AWP.list ?_
    refine AL.take 1 hX kHF_ok rfl trivial ?_
    refine AL.pcall hX fail_ok (c := cFailP) (x := (ws, ())) (xs := ((1 : Int), ())) rfl rfl rfl rfl rfl rfl rfl rfl rfl rfl trivial hp (one_inv (one_pH hX) hinv) (F' := fun _ => _) (fun _ => rfl) ?_
    exact fun x' => ⟨rfl, x', rfl⟩
  · have hb : (bif b then true else decide (v > m)) = false := hb
    have hle : ¬ (num s).1 > m := fun h => Bool.noConfusion (hb.symm.trans (hover.2 h))
    rw [if_neg hle]
    have hv : v = (num s).1 := by
      rcases hend with ⟨rfl, u, rfl, hn⟩ | ⟨⟨t, p, rfl⟩, hn⟩
      · omega
      · omega
    (repeat (first | refine AWP.seq ?_ | refine AWP.skip ?_ | refine AWP.label ?_ | refine AWP.exit ?_ | refine AWP.block ?_ | refine AWP.region hX kHF_ok rfl trivial ?_ | refine AWP.region hX kHF_ok rfl id ?_ | refine AWP.region hX kHF_ok rfl ⟨id, id⟩ ?_))
    (repeat (first | refine AWP.seq ?_ | refine AWP.skip ?_ | refine AWP.block ?_ | refine AWP.exit ?_)); refine AWP.region hX kHF_ok rfl ?_ ?_
    · exact ⟨by decide, by show (1 : Int) ≤ (ws.length : Nat); omega⟩
    (repeat (first | refine AWP.seq ?_ | refine AWP.skip ?_ | refine AWP.label ?_ | refine AWP.exit ?_ | refine AWP.block ?_ | refine AWP.region hX kHF_ok rfl trivial ?_ | refine AWP.region hX kHF_ok rfl id ?_ | refine AWP.region hX kHF_ok rfl ⟨id, id⟩ ?_))
    refine AWP.ret ⟨.inr rfl, ?_, done1 rfl trivial rfl rfl hv⟩
    show some (OObj.box rd (List.drop 1 ws, ())) = some (OObj.box rd (ws.tail, ()))
    rw [List.drop_one]
end Go.Proofs.YthkhgpbjfcmopaaGreatDoor
namespace Go.Proofs.YthkhgpbjfcmopaaGreatDoor
open Go Go.RowKit
set_option linter.unusedSimpArgs false
set_option linter.unusedVariables false
set_option maxRecDepth 100000
/-- a line's grant, and the words that are left -/
def grantW (ws : List Wd) : Except (Int × Int) (Gt × List Wd) :=
  match passP ws wsA with
  | .error e => .error e
  | .ok a => match passP a.2 wsW with
    | .error e => .error e
    | .ok k => match whoP (chI wsW k.1) k.2 with
      | .error e => .error e
      | .ok w => match whatP ((chI wsA a.1 : Nat) + 1) w.2.2 with
        | .error e => .error e
        | .ok g => match passP g.2.2 wsE with
          | .error e => .error e
          | .ok x => .ok (((chI wsA a.1 : Nat) + 1, w.1, w.2.1, g.1, g.2.1, ()), x.2)
theorem grantP_W (ws : List Wd) : grantP ws = match grantW ws with | .error e => .error e | .ok y => .ok y.1 := by
  unfold grantP grantW
  cases passP ws wsA with
  | error e => rfl
  | ok a =>
    simp only
    cases passP a.2 wsW with
    | error e => rfl
    | ok k =>
      simp only
      cases whoP (chI wsW k.1) k.2 with
      | error e => rfl
      | ok w =>
        simp only
        cases whatP ((chI wsA a.1 : Nat) + 1) w.2.2 with
        | error e => rfl
        | ok g =>
          simp only
          cases passP g.2.2 wsE with
          | error e => rfl
          | ok x => rfl
/-- words of a line: the last is empty, none is long -/
def WW (ws : List Wd) : Prop := LW ws ∧ ∀ x ∈ ws, (wT x).length ≤ 100000
theorem WW.pos {ws : List Wd} (h : WW ws) : 0 < ws.length := h.1.1
theorem WW.head {ws : List Wd} (h : WW ws) : (hdT ws).length ≤ 100000 := by
  cases ws with
  | nil => exact absurd h.pos (Nat.lt_irrefl 0)
  | cons x r => exact h.2 x (List.mem_cons_self ..)
theorem WW.tail {ws : List Wd} (h : WW ws) (hn : hdT ws ≠ []) : WW ws.tail := by
  obtain ⟨⟨h1, h2⟩, h3⟩ := h
  cases ws with
  | nil => exact absurd h1 (Nat.lt_irrefl 0)
  | cons x r =>
    cases r with
    | nil => exact (hn h2).elim
    | cons y r =>
      refine ⟨⟨by simp, ?_⟩, fun z hz => h3 z (List.mem_cons_of_mem _ hz)⟩
      have e : (x :: y :: r).getD ((x :: y :: r).length - 1) zW = (y :: r).getD ((y :: r).length - 1) zW := by
        simp [List.getD_cons_succ]
      rw [e] at h2
      exact h2
theorem passP_ok {ws : List Wd} {al : List (List UInt8)} {a : List UInt8 × List Wd} (h : passP ws al = .ok a) : a.1 ∈ al ∧ a.1 = hdT ws ∧ a.2 = ws.tail := by
  unfold passP at h
  split at h
  · cases h
    exact ⟨by assumption, rfl, rfl⟩
  · cases h
theorem passP_WW {ws : List Wd} {al : List (List UInt8)} {a : List UInt8 × List Wd} (h : passP ws al = .ok a) (hw : WW ws) (hal : ∀ w ∈ al, w ≠ []) : WW a.2 := by
  obtain ⟨h1, h2, h3⟩ := passP_ok h
  rw [h3]
  exact hw.tail (h2 ▸ hal _ h1)
theorem numP_WW {ws : List Wd} {m : Int} {a : Int × List Wd} (h : numP ws m = .ok a) (hw : WW ws) : WW a.2 := by
  unfold numP at h
  split at h
  · cases h
  · rename_i h1
    split at h
    · cases h
    · cases h
      exact hw.tail fun e => h1 (by rw [e]; rfl)
theorem whoP_WW {k : Nat} {ws : List Wd} {a : Int × Int × List Wd} (h : whoP k ws = .ok a) (hw : WW ws) : WW a.2.2 := by
  unfold whoP at h
  split at h
  · cases hn : numP ws 511 with
    | error e => rw [hn] at h; cases h
    | ok x => rw [hn] at h; cases h; exact (show WW x.2 from numP_WW hn hw)
  · split at h
    · cases hn : numP ws 63 with
      | error e => rw [hn] at h; cases h
      | ok x => rw [hn] at h; cases h; exact (show WW x.2 from numP_WW hn hw)
    · cases h
      exact hw
theorem whatP_WW {k : Int} {ws : List Wd} {a : Int × Int × List Wd} (h : whatP k ws = .ok a) (hw : WW ws) : WW a.2.2 := by
  unfold whatP at h
  split at h
  · cases hg : passP ws wsG with
    | error e => rw [hg] at h; cases h
    | ok y =>
      have wy := passP_WW hg hw (by decide)
      cases hn : numP y.2 4 with
      | error e => simp only [hg, hn] at h; cases h
      | ok x => simp only [hg, hn] at h; cases h; exact (show WW x.2 from numP_WW hn wy)
  · split at h
    · cases hg : passP ws wsR with
      | error e => rw [hg] at h; cases h
      | ok y =>
        have wy := passP_WW hg hw (by decide)
        cases hn : numP y.2 100 with
        | error e => simp only [hg, hn] at h; cases h
        | ok x => simp only [hg, hn] at h; cases h; exact (show WW x.2 from numP_WW hn wy)
    · cases h
      exact hw
def actEs : List (Value × Value) := [(.string ⟨#[97, 115, 107]⟩, .int .i64 1), (.string ⟨#[98, 111, 111, 107]⟩, .int .i64 2), (.string ⟨#[109, 111, 118, 101]⟩, .int .i64 3)]
theorem act_look {w : List UInt8} (h : w ∈ wsA) : findP .string (.string ⟨w.toArray⟩) actEs = some (some (.int .i64 ((chI wsA w : Nat) + 1))) := by
  rcases List.mem_cons.1 h with rfl | h
  · rfl
  rcases List.mem_cons.1 h with rfl | h
  · rfl
  rcases List.mem_cons.1 h with rfl | h
  · rfl
  cases h
def cGrantP : PCtr := { self := rd, args := [], inv := pN, pre := fun r _ => [WW r.1], res := gr, out := fun r _ => toV (fun y => (y.1, (y.2, ()))) (grantW r.1) }
def sGP (ws : List Wd) (a p t g k : Int) : AS := ⟨[(0, ⟨.optr rd, ⟨0, rd, .here⟩⟩), (2, ⟨.optr gr, ⟨1, gr, .here⟩⟩), (4, ⟨.optr gr, ⟨3, gr, .here⟩⟩)], [(0, some (.box rd (ws, ()))), (1, some (.box gr zG)), (3, some (.box gr (a, p, t, g, k, ())))], 4⟩
theorem grant_ok : PCtrOk Tryz.prog pH 65 cGrantP := by
  refine pctr_of_awp (K := pK) hK_ok Tryz.func65 rfl rfl Tryz.call65 rfl (by decide) pN_st ?_
  rintro w0 O g hX hinv ⟨(ws : List Wd), _⟩ _ hp
  have hp : WW ws := hp
  change AWP _ _ _ _ _ ⟨[(0, ⟨.optr rd, ⟨0, rd, .here⟩⟩)], [(0, some (.box rd (ws, ())))], 1⟩ _
  have hO : ∀ y, cGrantP.out (ws, ()) y = toV (fun y => (y.1, (y.2, ()))) (grantW ws) := fun _ => rfl
  rw [hO]
  have hI := one_inv (O := O) (one_pH hX) hinv
  unfold grantW
  (repeat (first | refine AWP.seq ?_ | refine AWP.skip ?_ | refine AWP.label ?_ | refine AWP.exit ?_ | refine AWP.block ?_ | refine AWP.region hX hK_ok rfl trivial ?_ | refine AWP.region hX hK_ok rfl id ?_ | refine AWP.region hX hK_ok rfl ⟨id, id⟩ ?_))
  refine AWP.list ?_
  refine AL.mapLit hX Tryz.underlying163 Tryz.underlying9 rfl actEs (ins := [_, _, _]) rfl rfl rfl rfl (.cons rfl (fun _ => rfl) (fun _ => rfl) rfl rfl (.cons rfl (fun _ => rfl) (fun _ => rfl) rfl rfl (.cons rfl (fun _ => rfl) (fun _ => rfl) rfl rfl rfl))) ⟨rfl, rfl, rfl, trivial⟩ ?_
  refine AL.all hX hK_ok rfl trivial ?_
  (repeat (first | refine AWP.seq ?_ | refine AWP.skip ?_ | refine AWP.block ?_ | refine AWP.exit ?_)); refine AWP.list ?_
  refine AL.take 3 hX hK_ok rfl trivial ?_
  refine AL.pcall hX pass_ok (c := cPassP) (x := (ws, ())) (xs := (wsA, ())) rfl rfl rfl rfl rfl rfl rfl rfl rfl rfl trivial hp.pos hI (F' := fun _ => _) (fun _ => rfl) ?_
  show PCall _ _ _ _ _ _ _ _ _ _ _ _ _ (toV _ (passP ws wsA))
  cases pa : passP ws wsA with
  | error e => exact fun x' => ⟨rfl, x', rfl⟩
  | ok a =>
    have qa := passP_ok pa
    have wa := passP_WW pa hp (by decide)
    simp only [toV, PCall]
    refine AL.look Tryz.underlying163 Tryz.underlying9 rfl (key := .string ⟨a.1.toArray⟩) (v := .int .i64 ((chI wsA a.1 : Nat) + 1)) (es := actEs) ⟨i64, ((chI wsA a.1 : Nat) : Int) + 1⟩ rfl rfl rfl rfl rfl (key_str rfl) (act_look qa.1) (fun _ _ _ => RepV.ofInt (k := .i64)) rfl ?_
    refine AL.all hX hK_ok rfl trivial ?_
    refine AWP.fit (σ' := sGP a.2 ((chI wsA a.1 : Nat) + 1) (-1) (-1) 0 0) ⟨⟨rfl, rfl, rfl, trivial⟩, ⟨rfl, rfl, rfl, trivial⟩, rfl, rfl⟩ ?_
    unfold sGP
    (repeat (first | refine AWP.seq ?_ | refine AWP.skip ?_ | refine AWP.block ?_ | refine AWP.exit ?_)); refine AWP.list ?_
    refine AL.take 2 hX hK_ok rfl trivial ?_
    refine AL.pcall hX pass_ok (c := cPassP) (x := (a.2, ())) (xs := (wsW, ())) rfl rfl rfl rfl rfl rfl rfl rfl rfl rfl trivial wa.pos hI (F' := fun _ => _) (fun _ => rfl) ?_
    show PCall _ _ _ _ _ _ _ _ _ _ _ _ _ (toV _ (passP a.2 wsW))
    cases pk : passP a.2 wsW with
    | error e => exact fun x' => ⟨rfl, x', rfl⟩
    | ok k =>
      have qk := passP_ok pk
      have wk := passP_WW pk wa (by decide)
      simp only [toV, PCall]
      refine AL.nil ?_
      obtain ⟨kw, kr⟩ := k
      have hkw : kw = [97, 108, 108] ∨ kw = [112, 101, 114, 115, 111, 110] ∨ kw = [116, 101, 97, 109] := by
        have := qk.1
        simpa [wsW] using this
      have wk : WW kr := wk
      clear qk pk
      have nf : ∀ {x y : List UInt8}, x ≠ y → eqb .str x y = true → False := fun h h1 => h (eqb_iff.1 h1)
      have nt : ∀ {x : List UInt8}, eqb .str x x = false → False := fun h1 => by rw [eqb_iff.2 rfl] at h1; cases h1
      have h511 : allP (cNumP.pre (kr, ()) ((511 : Int), ())) := ⟨wk.pos, wk.head, (by decide : (0 : Int) ≤ 511), (by decide : (511 : Int) < 1000000)⟩
      have h63 : allP (cNumP.pre (kr, ()) ((63 : Int), ())) := ⟨wk.pos, wk.head, (by decide : (0 : Int) ≤ 63), (by decide : (63 : Int) < 1000000)⟩
      cases hW : whoP (chI wsW kw) kr with
      | error e =>
        simp only [hW]
        refine AWP.block ?_
        rcases hkw with rfl | rfl | rfl
        · cases hW
        · have hW : (match numP kr 511 with | .error e => .error e | .ok x => .ok (x.1, -1, x.2)) = (Except.error e : Except (Int × Int) (Int × Int × List Wd)) := hW
          (repeat (first | refine AWP.seq ?_ | refine AWP.skip ?_ | refine AWP.label ?_ | refine AWP.exit ?_ | refine AWP.block ?_ | refine AWP.region hX hK_ok rfl trivial ?_ | refine AWP.region hX hK_ok rfl id ?_ | refine AWP.region hX hK_ok rfl ⟨id, id⟩ ?_))
          refine AWP.cond rfl (fun hb => ?_) (fun hb => ?_)
          · refine AWP.list ?_
            refine AL.take 1 hX hK_ok rfl trivial ?_
            refine AL.pcall hX number_ok (c := cNumP) (x := (kr, ())) (xs := ((511 : Int), ())) rfl rfl rfl rfl rfl rfl rfl rfl rfl rfl trivial h511 hI (F' := fun _ => _) (fun _ => rfl) ?_
            show PCall _ _ _ _ _ _ _ _ _ _ _ _ _ (toV _ (numP kr 511))
            cases hn : numP kr 511 with
            | error e' =>
              rw [hn] at hW
              cases hW
              exact fun x' => ⟨rfl, x', rfl⟩
            | ok x => rw [hn] at hW; cases hW
          · exact (nt hb).elim
        · have hW : (match numP kr 63 with | .error e => .error e | .ok x => .ok (-1, x.1, x.2)) = (Except.error e : Except (Int × Int) (Int × Int × List Wd)) := hW
          (repeat (first | refine AWP.seq ?_ | refine AWP.skip ?_ | refine AWP.label ?_ | refine AWP.exit ?_ | refine AWP.block ?_ | refine AWP.region hX hK_ok rfl trivial ?_ | refine AWP.region hX hK_ok rfl id ?_ | refine AWP.region hX hK_ok rfl ⟨id, id⟩ ?_))
          refine AWP.cond rfl (fun hb => ?_) (fun hb => ?_)
          · exact (nf (by decide) hb).elim
          (repeat (first | refine AWP.seq ?_ | refine AWP.skip ?_ | refine AWP.label ?_ | refine AWP.exit ?_ | refine AWP.block ?_ | refine AWP.region hX hK_ok rfl trivial ?_ | refine AWP.region hX hK_ok rfl id ?_ | refine AWP.region hX hK_ok rfl ⟨id, id⟩ ?_))
          refine AWP.cond rfl (fun hb => ?_) (fun hb => ?_)
          · refine AWP.list ?_
            refine AL.take 1 hX hK_ok rfl trivial ?_
            refine AL.pcall hX number_ok (c := cNumP) (x := (kr, ())) (xs := ((63 : Int), ())) rfl rfl rfl rfl rfl rfl rfl rfl rfl rfl trivial h63 hI (F' := fun _ => _) (fun _ => rfl) ?_
            show PCall _ _ _ _ _ _ _ _ _ _ _ _ _ (toV _ (numP kr 63))
            cases hn : numP kr 63 with
            | error e' =>
              rw [hn] at hW
              cases hW
              exact fun x' => ⟨rfl, x', rfl⟩
            | ok x => rw [hn] at hW; cases hW
          · exact (nt hb).elim
      | ok w =>
        obtain ⟨wp, wt, wr⟩ := w
        simp only [hW]
        refine AWP.via (σ' := sGP wr ((chI wsA a.1 : Nat) + 1) wp wt 0 0) ?_ ?_
        · refine AWP.block ?_
          rcases hkw with rfl | rfl | rfl
          · cases hW
            (repeat (first | refine AWP.seq ?_ | refine AWP.skip ?_ | refine AWP.label ?_ | refine AWP.exit ?_ | refine AWP.block ?_ | refine AWP.region hX hK_ok rfl trivial ?_ | refine AWP.region hX hK_ok rfl id ?_ | refine AWP.region hX hK_ok rfl ⟨id, id⟩ ?_))
            refine AWP.cond rfl (fun hb => ?_) (fun hb => ?_)
            · exact (nf (by decide) hb).elim
            (repeat (first | refine AWP.seq ?_ | refine AWP.skip ?_ | refine AWP.label ?_ | refine AWP.exit ?_ | refine AWP.block ?_ | refine AWP.region hX hK_ok rfl trivial ?_ | refine AWP.region hX hK_ok rfl id ?_ | refine AWP.region hX hK_ok rfl ⟨id, id⟩ ?_))
            refine AWP.cond rfl (fun hb => ?_) (fun hb => ?_)
            · exact (nf (by decide) hb).elim
            · (repeat (first | refine AWP.seq ?_ | refine AWP.skip ?_ | refine AWP.label ?_ | refine AWP.exit ?_ | refine AWP.block ?_ | refine AWP.region hX hK_ok rfl trivial ?_ | refine AWP.region hX hK_ok rfl id ?_ | refine AWP.region hX hK_ok rfl ⟨id, id⟩ ?_))
              exact ⟨⟨rfl, rfl, rfl, trivial⟩, ⟨rfl, rfl, rfl, trivial⟩, rfl, rfl⟩
          · have hW : (match numP kr 511 with | .error e => .error e | .ok x => .ok (x.1, -1, x.2)) = (Except.ok (wp, wt, wr) : Except (Int × Int) (Int × Int × List Wd)) := hW
            (repeat (first | refine AWP.seq ?_ | refine AWP.skip ?_ | refine AWP.label ?_ | refine AWP.exit ?_ | refine AWP.block ?_ | refine AWP.region hX hK_ok rfl trivial ?_ | refine AWP.region hX hK_ok rfl id ?_ | refine AWP.region hX hK_ok rfl ⟨id, id⟩ ?_))
            refine AWP.cond rfl (fun hb => ?_) (fun hb => ?_)
            · refine AWP.list ?_
              refine AL.take 1 hX hK_ok rfl trivial ?_
              refine AL.pcall hX number_ok (c := cNumP) (x := (kr, ())) (xs := ((511 : Int), ())) rfl rfl rfl rfl rfl rfl rfl rfl rfl rfl trivial h511 hI (F' := fun _ => _) (fun _ => rfl) ?_
              show PCall _ _ _ _ _ _ _ _ _ _ _ _ _ (toV _ (numP kr 511))
              cases hn : numP kr 511 with
              | error e' => rw [hn] at hW; cases hW
              | ok x =>
                rw [hn] at hW
                cases hW
                simp only [toV, PCall]
                refine AL.all hX hK_ok rfl trivial ?_
                exact ⟨⟨rfl, rfl, rfl, trivial⟩, ⟨rfl, rfl, rfl, trivial⟩, rfl, rfl⟩
            · exact (nt hb).elim
          · have hW : (match numP kr 63 with | .error e => .error e | .ok x => .ok (-1, x.1, x.2)) = (Except.ok (wp, wt, wr) : Except (Int × Int) (Int × Int × List Wd)) := hW
            (repeat (first | refine AWP.seq ?_ | refine AWP.skip ?_ | refine AWP.label ?_ | refine AWP.exit ?_ | refine AWP.block ?_ | refine AWP.region hX hK_ok rfl trivial ?_ | refine AWP.region hX hK_ok rfl id ?_ | refine AWP.region hX hK_ok rfl ⟨id, id⟩ ?_))
            refine AWP.cond rfl (fun hb => ?_) (fun hb => ?_)
            · exact (nf (by decide) hb).elim
            (repeat (first | refine AWP.seq ?_ | refine AWP.skip ?_ | refine AWP.label ?_ | refine AWP.exit ?_ | refine AWP.block ?_ | refine AWP.region hX hK_ok rfl trivial ?_ | refine AWP.region hX hK_ok rfl id ?_ | refine AWP.region hX hK_ok rfl ⟨id, id⟩ ?_))
            refine AWP.cond rfl (fun hb => ?_) (fun hb => ?_)
            · refine AWP.list ?_
              refine AL.take 1 hX hK_ok rfl trivial ?_
              refine AL.pcall hX number_ok (c := cNumP) (x := (kr, ())) (xs := ((63 : Int), ())) rfl rfl rfl rfl rfl rfl rfl rfl rfl rfl trivial h63 hI (F' := fun _ => _) (fun _ => rfl) ?_
              show PCall _ _ _ _ _ _ _ _ _ _ _ _ _ (toV _ (numP kr 63))
              cases hn : numP kr 63 with
              | error e' => rw [hn] at hW; cases hW
              | ok x =>
                rw [hn] at hW
                cases hW
                simp only [toV, PCall]
                refine AL.all hX hK_ok rfl trivial ?_
                exact ⟨⟨rfl, rfl, rfl, trivial⟩, ⟨rfl, rfl, rfl, trivial⟩, rfl, rfl⟩
            · exact (nt hb).elim
        · have wr' : WW wr := whoP_WW hW wk
          generalize hA : ((chI wsA a.1 : Nat) : Int) + 1 = A
          have hyA : ∀ {y : List UInt8 × List Wd} {al : List (List UInt8)} (m : Int), passP wr al = .ok y → (∀ w ∈ al, w ≠ []) → 0 ≤ m → m < 1000000 → allP (cNumP.pre (y.2, ()) (m, ())) := fun m hy hal h0 h1 => ⟨(passP_WW hy wr' hal).pos, (passP_WW hy wr' hal).head, h0, h1⟩
          cases hg : whatP A wr with
          | error e =>
            simp only [hg]
            unfold sGP
            refine AWP.seq ?_
            (repeat (first | refine AWP.seq ?_ | refine AWP.skip ?_ | refine AWP.label ?_ | refine AWP.exit ?_ | refine AWP.block ?_ | refine AWP.region hX hK_ok rfl trivial ?_ | refine AWP.region hX hK_ok rfl id ?_ | refine AWP.region hX hK_ok rfl ⟨id, id⟩ ?_))
            refine AWP.cond rfl (fun hb => ?_) (fun hb => ?_)
            · have hb : decide (A = 1) = true := hb
              have hb := of_decide_eq_true hb
              rw [show whatP A wr = (match passP wr wsG with | .error e => .error e | .ok y => match numP y.2 4 with | .error e => .error e | .ok x => .ok (x.1, 0, x.2)) from if_pos hb] at hg
              (repeat (first | refine AWP.seq ?_ | refine AWP.skip ?_ | refine AWP.block ?_ | refine AWP.exit ?_)); refine AWP.list ?_
              refine AL.take 2 hX hK_ok rfl trivial ?_
              refine AL.pcall hX pass_ok (c := cPassP) (x := (wr, ())) (xs := (wsG, ())) rfl rfl rfl rfl rfl rfl rfl rfl rfl rfl trivial wr'.pos hI (F' := fun _ => _) (fun _ => rfl) ?_
              show PCall _ _ _ _ _ _ _ _ _ _ _ _ _ (toV _ (passP wr wsG))
              cases hy : passP wr wsG with
              | error e' =>
                rw [hy] at hg
                cases hg
                exact fun x' => ⟨rfl, x', rfl⟩
              | ok y =>
                simp only [hy] at hg
                simp only [toV, PCall]
                refine AL.nil ?_
                refine AWP.list ?_
                refine AL.take 1 hX hK_ok rfl trivial ?_
                refine AL.pcall hX number_ok (c := cNumP) (x := (y.2, ())) (xs := ((4 : Int), ())) rfl rfl rfl rfl rfl rfl rfl rfl rfl rfl trivial (hyA 4 hy (by decide) (by decide) (by decide)) hI (F' := fun _ => _) (fun _ => rfl) ?_
                show PCall _ _ _ _ _ _ _ _ _ _ _ _ _ (toV _ (numP y.2 4))
                cases hn : numP y.2 4 with
                | error e' =>
                  rw [hn] at hg
                  cases hg
                  exact fun x' => ⟨rfl, x', rfl⟩
                | ok x => rw [hn] at hg; cases hg
            · have hb1 : decide (A = 1) = false := hb
              have hb1 := of_decide_eq_false hb1
              (repeat (first | refine AWP.seq ?_ | refine AWP.skip ?_ | refine AWP.label ?_ | refine AWP.exit ?_ | refine AWP.block ?_ | refine AWP.region hX hK_ok rfl trivial ?_ | refine AWP.region hX hK_ok rfl id ?_ | refine AWP.region hX hK_ok rfl ⟨id, id⟩ ?_))
              refine AWP.cond rfl (fun hb => ?_) (fun hb => ?_)
              · have hb : decide (A = 3) = true := hb
                have hb := of_decide_eq_true hb
                rw [show whatP A wr = (match passP wr wsR with | .error e => .error e | .ok y => match numP y.2 100 with | .error e => .error e | .ok x => .ok (0, x.1, x.2)) from (if_neg hb1).trans (if_pos hb)] at hg
                (repeat (first | refine AWP.seq ?_ | refine AWP.skip ?_ | refine AWP.block ?_ | refine AWP.exit ?_)); refine AWP.list ?_
                refine AL.take 2 hX hK_ok rfl trivial ?_
                refine AL.pcall hX pass_ok (c := cPassP) (x := (wr, ())) (xs := (wsR, ())) rfl rfl rfl rfl rfl rfl rfl rfl rfl rfl trivial wr'.pos hI (F' := fun _ => _) (fun _ => rfl) ?_
                show PCall _ _ _ _ _ _ _ _ _ _ _ _ _ (toV _ (passP wr wsR))
                cases hy : passP wr wsR with
                | error e' =>
                  rw [hy] at hg
                  cases hg
                  exact fun x' => ⟨rfl, x', rfl⟩
                | ok y =>
                  simp only [hy] at hg
                  simp only [toV, PCall]
                  refine AL.nil ?_
                  refine AWP.list ?_
                  refine AL.take 1 hX hK_ok rfl trivial ?_
                  refine AL.pcall hX number_ok (c := cNumP) (x := (y.2, ())) (xs := ((100 : Int), ())) rfl rfl rfl rfl rfl rfl rfl rfl rfl rfl trivial (hyA 100 hy (by decide) (by decide) (by decide)) hI (F' := fun _ => _) (fun _ => rfl) ?_
                  show PCall _ _ _ _ _ _ _ _ _ _ _ _ _ (toV _ (numP y.2 100))
                  cases hn : numP y.2 100 with
                  | error e' =>
                    rw [hn] at hg
                    cases hg
                    exact fun x' => ⟨rfl, x', rfl⟩
                  | ok x => rw [hn] at hg; cases hg
              · have hb : decide (A = 3) = false := hb
                have hb := of_decide_eq_false hb
                rw [show whatP A wr = .ok (0, 0, wr) from (if_neg hb1).trans (if_neg hb)] at hg
                cases hg
          | ok d =>
            obtain ⟨gg, gk, gw⟩ := d
            have gw' : WW gw := whatP_WW hg wr'
            simp only [hg]
            refine AWP.join (σ' := sGP gw A wp wt gg gk) ?_ ?_
            · unfold sGP
              (repeat (first | refine AWP.seq ?_ | refine AWP.skip ?_ | refine AWP.label ?_ | refine AWP.exit ?_ | refine AWP.block ?_ | refine AWP.region hX hK_ok rfl trivial ?_ | refine AWP.region hX hK_ok rfl id ?_ | refine AWP.region hX hK_ok rfl ⟨id, id⟩ ?_))
              refine AWP.cond rfl (fun hb => ?_) (fun hb => ?_)
              · have hb : decide (A = 1) = true := hb
                have hb := of_decide_eq_true hb
                rw [show whatP A wr = (match passP wr wsG with | .error e => .error e | .ok y => match numP y.2 4 with | .error e => .error e | .ok x => .ok (x.1, 0, x.2)) from if_pos hb] at hg
                (repeat (first | refine AWP.seq ?_ | refine AWP.skip ?_ | refine AWP.block ?_ | refine AWP.exit ?_)); refine AWP.list ?_
                refine AL.take 2 hX hK_ok rfl trivial ?_
                refine AL.pcall hX pass_ok (c := cPassP) (x := (wr, ())) (xs := (wsG, ())) rfl rfl rfl rfl rfl rfl rfl rfl rfl rfl trivial wr'.pos hI (F' := fun _ => _) (fun _ => rfl) ?_
                show PCall _ _ _ _ _ _ _ _ _ _ _ _ _ (toV _ (passP wr wsG))
                cases hy : passP wr wsG with
                | error e' => rw [hy] at hg; cases hg
                | ok y =>
                  simp only [hy] at hg
                  simp only [toV, PCall]
                  refine AL.nil ?_
                  refine AWP.list ?_
                  refine AL.take 1 hX hK_ok rfl trivial ?_
                  refine AL.pcall hX number_ok (c := cNumP) (x := (y.2, ())) (xs := ((4 : Int), ())) rfl rfl rfl rfl rfl rfl rfl rfl rfl rfl trivial (hyA 4 hy (by decide) (by decide) (by decide)) hI (F' := fun _ => _) (fun _ => rfl) ?_
                  show PCall _ _ _ _ _ _ _ _ _ _ _ _ _ (toV _ (numP y.2 4))
                  cases hn : numP y.2 4 with
                  | error e' => rw [hn] at hg; cases hg
                  | ok x =>
                    rw [hn] at hg
                    cases hg
                    simp only [toV, PCall]
                    refine AL.all hX hK_ok rfl trivial ?_
                    exact ⟨⟨rfl, rfl, rfl, trivial⟩, ⟨rfl, rfl, rfl, trivial⟩, rfl, rfl⟩
              · have hb1 : decide (A = 1) = false := hb
                have hb1 := of_decide_eq_false hb1
                (repeat (first | refine AWP.seq ?_ | refine AWP.skip ?_ | refine AWP.label ?_ | refine AWP.exit ?_ | refine AWP.block ?_ | refine AWP.region hX hK_ok rfl trivial ?_ | refine AWP.region hX hK_ok rfl id ?_ | refine AWP.region hX hK_ok rfl ⟨id, id⟩ ?_))
                refine AWP.cond rfl (fun hb => ?_) (fun hb => ?_)
                · have hb : decide (A = 3) = true := hb
                  have hb := of_decide_eq_true hb
                  rw [show whatP A wr = (match passP wr wsR with | .error e => .error e | .ok y => match numP y.2 100 with | .error e => .error e | .ok x => .ok (0, x.1, x.2)) from (if_neg hb1).trans (if_pos hb)] at hg
                  (repeat (first | refine AWP.seq ?_ | refine AWP.skip ?_ | refine AWP.block ?_ | refine AWP.exit ?_)); refine AWP.list ?_
                  refine AL.take 2 hX hK_ok rfl trivial ?_
                  refine AL.pcall hX pass_ok (c := cPassP) (x := (wr, ())) (xs := (wsR, ())) rfl rfl rfl rfl rfl rfl rfl rfl rfl rfl trivial wr'.pos hI (F' := fun _ => _) (fun _ => rfl) ?_
                  show PCall _ _ _ _ _ _ _ _ _ _ _ _ _ (toV _ (passP wr wsR))
                  cases hy : passP wr wsR with
                  | error e' => rw [hy] at hg; cases hg
                  | ok y =>
                    simp only [hy] at hg
                    simp only [toV, PCall]
                    refine AL.nil ?_
                    refine AWP.list ?_
                    refine AL.take 1 hX hK_ok rfl trivial ?_
                    refine AL.pcall hX number_ok (c := cNumP) (x := (y.2, ())) (xs := ((100 : Int), ())) rfl rfl rfl rfl rfl rfl rfl rfl rfl rfl trivial (hyA 100 hy (by decide) (by decide) (by decide)) hI (F' := fun _ => _) (fun _ => rfl) ?_
                    show PCall _ _ _ _ _ _ _ _ _ _ _ _ _ (toV _ (numP y.2 100))
                    cases hn : numP y.2 100 with
                    | error e' => rw [hn] at hg; cases hg
                    | ok x =>
                      rw [hn] at hg
                      cases hg
                      simp only [toV, PCall]
                      refine AL.all hX hK_ok rfl trivial ?_
                      exact ⟨⟨rfl, rfl, rfl, trivial⟩, ⟨rfl, rfl, rfl, trivial⟩, rfl, rfl⟩
                · have hb : decide (A = 3) = false := hb
                  have hb := of_decide_eq_false hb
                  rw [show whatP A wr = .ok (0, 0, wr) from (if_neg hb1).trans (if_neg hb)] at hg
                  cases hg
                  (repeat (first | refine AWP.seq ?_ | refine AWP.skip ?_ | refine AWP.label ?_ | refine AWP.exit ?_ | refine AWP.block ?_ | refine AWP.region hX hK_ok rfl trivial ?_ | refine AWP.region hX hK_ok rfl id ?_ | refine AWP.region hX hK_ok rfl ⟨id, id⟩ ?_))
                  exact ⟨⟨rfl, rfl, rfl, trivial⟩, ⟨rfl, rfl, rfl, trivial⟩, rfl, rfl⟩
            unfold sGP
            (repeat (first | refine AWP.seq ?_ | refine AWP.skip ?_ | refine AWP.block ?_ | refine AWP.exit ?_)); refine AWP.list ?_
            refine AL.take 2 hX hK_ok rfl trivial ?_
            refine AL.pcall hX pass_ok (c := cPassP) (x := (gw, ())) (xs := (wsE, ())) rfl rfl rfl rfl rfl rfl rfl rfl rfl rfl trivial gw'.pos hI (F' := fun _ => _) (fun _ => rfl) ?_
            show PCall _ _ _ _ _ _ _ _ _ _ _ _ _ (toV _ (passP gw wsE))
            cases hx : passP gw wsE with
            | error e' => exact fun x' => ⟨rfl, x', rfl⟩
            | ok x =>
              simp only [toV, PCall]
              refine AL.nil ?_
              (repeat (first | refine AWP.seq ?_ | refine AWP.skip ?_ | refine AWP.label ?_ | refine AWP.exit ?_ | refine AWP.block ?_ | refine AWP.region hX hK_ok rfl trivial ?_ | refine AWP.region hX hK_ok rfl id ?_ | refine AWP.region hX hK_ok rfl ⟨id, id⟩ ?_))
              exact AWP.ret ⟨.inr rfl, rfl, done1 rfl trivial rfl rfl rfl⟩
end Go.Proofs.YthkhgpbjfcmopaaGreatDoor
