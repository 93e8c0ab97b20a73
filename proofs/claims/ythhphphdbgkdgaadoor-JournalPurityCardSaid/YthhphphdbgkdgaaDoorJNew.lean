/-
  Package journal: what Sync, Repair, Append, Crash return lies in new memory.
-/
import Derived.Test.YthhphphdbgkdgaaDoorJRec
namespace Go.Proofs.YthhphphdbgkdgaaDoor
open Go Go.RowKit
set_option linter.unusedSimpArgs false
set_option linter.unusedVariables false
set_option maxRecDepth 100000
def kJn : Kn := { dK with C := [(13, cValid), (14, cPays), (15, cJoin), (16, cCheck)], H := [29] }
theorem kJn_ok : KnOk Tryd.prog dG kJn := ⟨dK_ok.t, dK_ok.u, .cons valid_ok <| .cons pays_ok <| .cons join_ok <| .cons check_ok .nil, dK_ok.st, dK_ok.r⟩
def kCn : Kn := { dK with cut := true, H := [29] }
theorem kCn_ok : KnOk Tryd.prog dG kCn := ⟨dK_ok.t, dK_ok.u, dK_ok.c, dK_ok.st, dK_ok.r⟩
theorem built_log (A : Option Addr) (k c : Nat) (m : Int) : Tryd.prog.built 29 [(0, .slice A k c), (1, .int .i64 m)] = some #[.slice A k c, .int .i64 m] := by kernel_rfl
theorem log_end {fn : Func} {w0 w : World} {X : Ownr} {n p q i : Nat} {σ : AS} {β : Nat → Value} {a : Act} {u : Value} {m : Int} (hs : Sim w0 X n σ β a w) (hp : Frame.get σ.F p = ⟨.hptr, (i, 0)⟩) (hi : Owns.get σ.E i = some (.hbox [⟨.lit, u⟩, ⟨i64, m⟩])) (hrs : fn.results = #[.cell p 29, .tmp q]) :
    (results fn a.tmps).run Tryd.prog w = .ok (.tuple #[.agg #[u, .int .i64 m], a.tmps.getD q undef]) w := by
  have hv := hs.fr p
  rw [hp] at hv
  obtain ⟨g, hg, hv⟩ : ∃ g, blockOf (β i) = some g ∧ a.tmps.getD p undef = .pointer (some ⟨g, 0, none⟩) := hv
  obtain ⟨cs, h2, h3⟩ := (hs.own i _ hi).hcells hg
  obtain ⟨u', s, rfl, _, hu, v', s', rfl, _, hv', hs'⟩ := h2
  have hs' : s' = [] := hs'
  have hu : u' = u := hu
  have hv' : v' = .int .i64 m := RepV.int hv'
  subst hs' hu hv'
  have hl : (Go.loadVar 29 ⟨g, 0, none⟩).run Tryd.prog w = .ok (.agg #[u', .int .i64 m]) w := loadAgg (dK_ok.t.lay _ jl rfl) rfl rfl h3
  have hm : (fn.results.mapM (resM a.tmps)).run Tryd.prog w = .ok #[.agg #[u', .int .i64 m], a.tmps.getD q undef] w := by
    rw [Array.mapM_eq_mapM_toList, hrs]
    simp [resM, hv, asAddr, hl]
  rw [results_eq, Sem.run_bind, hm]
  simp

/-- a log in new memory, and a code -/
def LogE (w0 : World) (xs : List UInt8) (e : Ending) (w : World) : Prop := ∃ u m k, e = .returned (.tuple #[.agg #[u, .int .i64 m], k]) ∧ Below w0.heap.size w0 w ∧ Lives w0 w u ∧ RepS w noO (RepC w noO u8) xs u
def LogR (fn : Func) (w0 : World) (xs : List UInt8) : Exit → Act → World → Prop := fun e a w => (e = .normal ∨ e = .ret) ∧ a.defers = [] ∧ ∃ v, (results fn a.tmps).run Tryd.prog w = .ok v w ∧ LogE w0 xs (.returned v) w
/-- a function's promise -/
def LogNew (f : FuncId) (ts : List Ty) (pre : Args ts → Prop) (out : Args ts → List UInt8) : Prop :=
  ∀ (w : World) (xs : Args ts) (vs : List Value), RepA w noO ts xs vs → pre xs → dG w → Calls Tryd.prog f vs.toArray w (LogE w (out xs))
section
variable {fn : Func} {w0 : World} {n p q i : Nat} {σ : AS}
theorem logR_nil (hp : Frame.get σ.F p = ⟨.hptr, (i, 0)⟩) (hi : Owns.get σ.E i = some (.hbox [⟨.lit, .slice none 0 0⟩, ⟨i64, (0 : Int)⟩])) (hrs : fn.results = #[.cell p 29, .tmp q]) : EndR w0 (Ownr.plain dG noO) n (LogR fn w0 []) .ret σ := by
  intro β a w hs
  exact ⟨.inr rfl, hs.df, _, log_end hs hp hi hrs, _, _, _, rfl, hs.bel.below (Ownr.plain_noR _ _), .inl ⟨_, _, rfl⟩, .inl ⟨rfl, _, _, rfl, Nat.zero_le _⟩⟩
theorem logOk {w : World} (hG : dG w) : (Ownr.plain dG noO).Ok w := ⟨fun g hg => hg.elim, fun g hg => (Ownr.plain_noR _ _ g hg).elim, fun w' hk => dK_ok.st w w' hG (hk.below (Ownr.plain_noR _ _))⟩
theorem log_of_walk {f : FuncId} {fn : Func} {c : Code} (hf : Tryd.prog.funcs[f]? = some fn) (hb : fn.body = some c) (hn : fn.ntmps = n) {ts : List Ty} (hd : allData ts = true) (hlen : ts.length ≤ n) {pre : Args ts → Prop} {out : Args ts → List UInt8}
    (h : ∀ w0 : World, dG w0 → (Ownr.plain dG noO).Ok w0 → ∀ xs : Args ts, pre xs → AWPR Tryd.prog w0 (Ownr.plain dG noO) n c (initS ts xs) (LogR fn w0 (out xs))) : LogNew f ts pre out := fun w xs vs hrep hp hG =>
  calls_of_awpr (G := dG) hf hb hn hd hlen hrep (h w hG (logOk hG) xs hp)
/-- the end of such a function: the structure is built, stored, the code set -/
theorem log_tail {K : Kn} (hK : KnOk Tryd.prog dG K) (hG : dG w0) {ops : Array Oper} {ob : Oper} {rest : List Oper} {xs : List UInt8} {te : TypeId} {β : Nat → Value} {a : Act} {w : World} {u : Value} {d0 d1 d nx : Nat} {m : Int} (F : List (Nat × V)) {vs : List V} (hs0 : Sim w0 (Ownr.plain dG noO) n σ β a w)
    (hf : Fit σ ⟨F, [(i, some (.hbox vs))], nx⟩) (hn : New w0 te w u) (hx : RepS w noO (RepC w noO u8) xs u) (hne : xs ≠ [] → ∀ g, blockOf u = some g → blockOf (β i) ≠ some g)
    (h0 : Frame.get F d0 = ⟨.lit, u⟩) (h1 : Frame.get F d1 = ⟨i64, m⟩) (hob : ob.op = .build 29 #[(0, .tmp d0), (1, .tmp d1)]) (hbg : ob.guard = none) (hbd : ob.dst = some d) (hd : Nat.blt d n = true) (hrs : fn.results = #[.cell p 29, .tmp q])
    (hrest : ∀ A k c, ∃ r, aSeq K n ops rest ⟨(d, ⟨.lit, .agg #[.slice A k c, .int .i64 m]⟩) :: F, [(i, some (.hbox vs))], nx⟩ = some r ∧ allP r.1 ∧ Frame.get r.2.F p = ⟨.hptr, (i, 0)⟩ ∧ Owns.get r.2.E i = some (.hbox [⟨.lit, .slice A k c⟩, ⟨i64, m⟩])) {P : Exit → Act → World → Prop}
    (hP : ∀ a' w', a'.defers = [] → (∃ v, (results fn a'.tmps).run Tryd.prog w' = .ok v w' ∧ LogE w0 xs (.returned v) w') → P .normal a' w') : wpList Tryd.prog ops P (ob :: rest) a w := by
  have hs1 := hs0.fit hf (Nat.zero_le _)
  have hE : ∀ j o, Owns.get [(i, some (OObj.hbox vs))] j = some o → j = i := fun j o ho => by
    rw [Owns.get_cons] at ho
    split at ho
    · rename_i e; exact e.symm
    · cases ho
  let Xb : Ownr := ⟨dG, noO, 0, fun _ => 0, [], none, fun g => blockOf (β i) = some g⟩
  have hi : Owns.get [(i, some (OObj.hbox vs))] i = some (.hbox vs) := by rw [Owns.get_cons, if_pos rfl]
  have hblk : ∀ g, blockOf (β i) = some g → w0.heap.size ≤ g ∧ g < w.heap.size := fun g hg => by
    refine ⟨?_, ((hs1.own i _ hi).block_lt hg).2⟩
    rcases hs1.new i _ g hi hg with h9 | h9
    · exact h9
    · exact (Ownr.plain_noR _ _ _ h9).elim
  have hR : ∀ g, Xb.R g → blockOf (β i) = some g := fun g hg => hg.elim (fun ⟨j, hj, _⟩ => absurd hj (Nat.not_lt_zero _)) id
  have hb0 : Below w0.heap.size w0 w := hs1.bel.below (Ownr.plain_noR _ _)
  have hs : Sim w Xb n ⟨F, [(i, some (.hbox vs))], nx⟩ β a w := ⟨hs1.sz, hs1.df, Kept.refl _ _, hs1.fr, hs1.own, fun j o g ho hg => .inr (.inr (by show blockOf (β i) = some g; rw [← hE j o ho]; exact hg)), hs1.inj, hs1.lt, ⟨Nat.zero_le _, fun j hj => absurd hj (Nat.not_lt_zero _)⟩, hs1.hb, hs1.hE⟩
  have hXb : Xb.Ok w := ⟨fun g hg => hg.elim, fun g hg => (hblk g (hR g hg)).2, fun w' hk => dG_kept (R := Xb.R) (fun h9 => by
    have := (hblk _ (hR _ h9)).1
    have := hG.1
    omega) (dK_ok.st w0 w hG hb0) hk⟩
  have e0 : a.tmps.getD d0 undef = u := by have h9 : RepV _ _ _ (Frame.get F d0).t (Frame.get F d0).x _ := hs.fr d0; rw [h0] at h9; exact h9
  have e1 : a.tmps.getD d1 undef = .int .i64 m := by have h9 : RepV _ _ _ (Frame.get F d1).t (Frame.get F d1).x _ := hs.fr d1; rw [h1] at h9; exact RepV.int h9
  obtain ⟨A, k, c, hu⟩ : ∃ A k c, u = .slice A k c := by
    obtain ⟨ys, cs, _, hr, _⟩ := hn
    rcases hr.2 with ⟨e, _⟩ | ⟨g, c, _, e, _⟩
    · exact ⟨_, _, _, e⟩
    · exact ⟨_, _, _, e⟩
  have hrun : (execOp a.eval ob).run Tryd.prog w = .ok (.value (.agg #[.slice A k c, .int .i64 m])) w := by
    unfold execOp
    simp only [hob]
    have hb := run_build (P := Tryd.prog) w 29 #[(0, .slice A k c), (1, .int .i64 m)] _ (built_log A k c m)
    have em : Array.map (fun x : Nat × Operand => (x.1, a.eval x.2)) #[(0, .tmp d0), (1, .tmp d1)] = #[(0, .slice A k c), (1, .int .i64 m)] := by
      have q0 : a.eval (.tmp d0) = .slice A k c := e0.trans hu
      have q1 : a.eval (.tmp d1) = .int .i64 m := e1
      simp [q0, q1]
    rw [em]
    exact run_v hb
  refine wpList_lit hs hbg hbd hd hrun fun a' hs' => ?_
  obtain ⟨r, hr1, hr2, hr3, hr4⟩ := hrest A k c
  refine aSeq_wp hK hXb rest hs' hr1 hr2 fun β2 a2 w2 hs2 => hP a2 w2 hs2.df ⟨_, log_end hs2 hr3 hr4 hrs, _, _, _, rfl, ?_, ?_, ?_⟩
  · have hk := hs2.bel
    exact ⟨hk.os.trans hb0.os, hk.tape.trans hb0.tape, hk.output.trans hb0.output, Nat.le_trans hb0.size hk.size, fun g hg => (hk.block g (Nat.lt_of_lt_of_le hg hb0.size) fun h9 => by have := (hblk g (hR g h9)).1; omega).trans (hb0.block g hg)⟩
  · rw [← hu]
    rcases hx with ⟨rfl, A', c', e, _⟩ | ⟨g, off, c', vs', e, hxn, _⟩
    · exact .inl ⟨A', c', e⟩
    · obtain ⟨ys, hn⟩ := hn
      refine .inr ⟨te, ys, hn.keep ⟨hs2.bel.size, fun q _ hq => absurd trivial hq, fun _ _ h => h⟩ fun q hq => hs2.bel.block q (hn.block_lt hq).2 fun h9 => hne hxn q hq (hR q h9)⟩
  · rw [← hu]
    rcases hx with ⟨rfl, h9⟩ | ⟨g, off, c', vs', e, hxn, h3, h4, h5, h6, h7, h8⟩
    · exact .inl ⟨rfl, h9⟩
    · have hsame := hs2.bel.block g h5 fun h9 => hne hxn g (by rw [e]; rfl) (hR g h9)
      exact .inr ⟨g, off, c', vs', e, hxn, h3, h4, Nat.lt_of_lt_of_le h5 hs2.bel.size, h6, h7.mono fun x _ c => repC_flat u8 rfl x c, h8.keep hsame⟩
end
abbrev zLogH : List V := [⟨.lit, .slice none 0 0⟩, ⟨i64, (0 : Int)⟩]
theorem sync_new : LogNew 11 [jl] (fun x => List.length x.1.1 ≤ 1100000) (fun x => (syncS x.1).1.1) := by
  refine log_of_walk (n := 16) Tryd.func11 rfl rfl (by decide) (by decide) ?_
  rintro w0 hG hX ⟨(l : Lg), _⟩ hp
  change AWPR _ _ _ _ _ ⟨[(0, ⟨jl, l⟩)], [], 0⟩ (LogR _ w0 (syncS l).1.1)
  have p1 : l.1.length ≤ 1100000 := hp
  refine AWPR.seq ?_
  (repeat (first | refine AWP.seq ?_ | refine AWP.skip ?_ | refine AWP.block ?_ | refine AWP.exit ?_)); refine AWP.region hX kJn_ok rfl ?_ ?_
  · trivial
  refine AWPR.seq ?_
  (repeat (first | refine AWP.seq ?_ | refine AWP.skip ?_ | refine AWP.block ?_ | refine AWP.exit ?_)); refine AWP.region hX kJn_ok rfl ?_ ?_
  · trivial
  refine AWP.cond rfl (fun hb => ?_) (fun hb => ?_)
  · have hb : (!validL l) = true := hb
    have hv : ¬ validL l = true := by simpa using hb
    (repeat (first | refine AWP.seq ?_ | refine AWP.skip ?_ | refine AWP.label ?_ | refine AWP.exit ?_ | refine AWP.block ?_ | refine AWP.region hX kJn_ok rfl trivial ?_ | refine AWP.region hX kJn_ok rfl id ?_ | refine AWP.region hX kJn_ok rfl ⟨id, id⟩ ?_))
    refine AWP.ret ?_
    (repeat refine thenQ_ret ?_)
    rw [show (syncS l).1.1 = [] by unfold syncS; rw [if_neg hv]; rfl]
    exact logR_nil rfl rfl rfl
  have hb : (!validL l) = false := hb
  have hv : validL l = true := by simpa using hb
  have e : List.flatten [l.1] = l.1 := by simp
  have q1 : (List.flatten [l.1]).length ≤ 100000000 := by rw [e]; omega
  rw [show (syncS l).1.1 = List.flatten [l.1] by unfold syncS; rw [if_pos hv, e]]
  refine AWP.skip ?_
  (repeat refine thenQ_normal ?_)
  refine AWPR.retAfter ?_
  refine AWPR.draw dM hX kJn_ok 7 (by kernel_rfl) rfl ?_ (j0 := 3) (by decide) rfl rfl rfl rfl rfl rfl rfl rfl ?_
  · repeat' (first | exact trivial | assumption | exact q1 | (refine ⟨?_, ?_⟩) | (intro _) | exact Nat.le_of_ble_eq_true rfl | exact Int.natCast_nonneg _ | (simp_all [allP]; done))
  intro β a' w' u hs hn hx hne
  exact log_tail (vs := zLogH) (nx := 2) kJn_ok hG [(2, ⟨.hptr, (1, 0)⟩), (3, ⟨i64, (0 : Int)⟩), (11, ⟨.lit, u⟩), (14, ⟨i64, ((l.1.length : Nat) : Int)⟩)] hs ⟨⟨rfl, rfl, rfl, rfl, trivial⟩, ⟨rfl, trivial⟩, rfl, rfl⟩ hn hx (fun h => hne h 1 _ rfl) rfl rfl rfl rfl rfl rfl rfl (fun A k c => by refine ⟨_, rfl, ?_, ?_, ?_⟩; exact trivial; exact rfl; exact rfl) fun a2 w2 hd hv => ⟨rfl, rfl, .inr rfl, hd, hv⟩
theorem append_new : LogNew 10 [jl, bs] (fun x => List.length x.1.1 ≤ 1100000 ∧ List.length x.2.1 ≤ 1100000) (fun x => (appendS x.1 x.2.1).1.1) := by
  refine log_of_walk (n := 59) Tryd.func10 rfl rfl (by decide) (by decide) ?_
  rintro w0 hG hX ⟨(l : Lg), (b : List UInt8), _⟩ hp
  change AWPR _ _ _ _ _ ⟨[(0, ⟨jl, l⟩), (1, ⟨bs, b⟩)], [], 0⟩ (LogR _ w0 (appendS l b).1.1)
  obtain ⟨p1, p2⟩ : l.1.length ≤ 1100000 ∧ b.length ≤ 1100000 := hp
  (try (refine AWP.skip ?_)); (first | refine AWPR.seq ?_ | refine thenQ_normal (AWPR.seq ?_) | skip); (repeat (first | refine AWP.seq ?_ | refine AWP.skip ?_ | refine AWP.block ?_ | refine AWP.exit ?_)); refine AWP.region hX kJn_ok rfl ?_ ?_
  · trivial
  (try (refine AWP.skip ?_)); (first | refine AWPR.seq ?_ | refine thenQ_normal (AWPR.seq ?_) | skip); (repeat (first | refine AWP.seq ?_ | refine AWP.skip ?_ | refine AWP.block ?_ | refine AWP.exit ?_)); refine AWP.region hX kJn_ok rfl ?_ ?_
  · trivial
  refine AWP.cond rfl (fun hb => ?_) (fun hb => ?_)
  · have hb : (!validL l) = true := hb
    have hv : ¬ validL l = true := by simpa using hb
    (repeat (first | refine AWP.seq ?_ | refine AWP.skip ?_ | refine AWP.label ?_ | refine AWP.exit ?_ | refine AWP.block ?_ | refine AWP.region hX kJn_ok rfl trivial ?_ | refine AWP.region hX kJn_ok rfl id ?_ | refine AWP.region hX kJn_ok rfl ⟨id, id⟩ ?_))
    refine AWP.ret ?_
    (repeat refine thenQ_ret ?_)
    have e0 : (appendS l b).1.1 = [] := by
      unfold appendS
      rw [if_neg hv]
      rfl
    rw [e0]
    exact logR_nil rfl rfl rfl
  have hb : (!validL l) = false := hb
  have hv : validL l = true := by simpa using hb
  (try (refine AWP.skip ?_)); (first | refine AWPR.seq ?_ | refine thenQ_normal (AWPR.seq ?_) | skip); (repeat (first | refine AWP.seq ?_ | refine AWP.skip ?_ | refine AWP.block ?_ | refine AWP.exit ?_)); refine AWP.region hX kJn_ok rfl ?_ ?_
  · exact p1
  (try (refine AWP.skip ?_)); (first | refine AWPR.seq ?_ | refine thenQ_normal (AWPR.seq ?_) | skip); (repeat (first | refine AWP.seq ?_ | refine AWP.skip ?_ | refine AWP.block ?_ | refine AWP.exit ?_)); refine AWP.region hX kJn_ok rfl ?_ ?_
  · trivial
  refine AWP.cond rfl (fun hb => ?_) (fun hb => ?_)
  · have hb : decide (((recs l.1).2 : Int) < (l.1.length : Nat)) = true := hb
    have hb := of_decide_eq_true hb
    (repeat (first | refine AWP.seq ?_ | refine AWP.skip ?_ | refine AWP.label ?_ | refine AWP.exit ?_ | refine AWP.block ?_ | refine AWP.region hX kJn_ok rfl trivial ?_ | refine AWP.region hX kJn_ok rfl id ?_ | refine AWP.region hX kJn_ok rfl ⟨id, id⟩ ?_))
    refine AWP.ret ?_
    (repeat refine thenQ_ret ?_)
    have e0 : (appendS l b).1.1 = [] := by
      unfold appendS
      rw [if_pos hv, if_pos (by omega)]
      rfl
    rw [e0]
    exact logR_nil rfl rfl rfl
  have hb : decide (((recs l.1).2 : Int) < (l.1.length : Nat)) = false := hb
  have hb1 := of_decide_eq_false hb
  (try (refine AWP.skip ?_)); (first | refine AWPR.seq ?_ | refine thenQ_normal (AWPR.seq ?_) | skip); (repeat (first | refine AWP.seq ?_ | refine AWP.skip ?_ | refine AWP.block ?_ | refine AWP.exit ?_)); refine AWP.region hX kJn_ok rfl ?_ ?_
  · exact ⟨inR_small (by show _ ≤ ((l.1.length : Nat) : Int) + 12; omega) (by show ((l.1.length : Nat) : Int) + 12 ≤ _; omega), inR_small (by show _ ≤ ((l.1.length : Nat) : Int) + 12 + (b.length : Nat); omega) (by show ((l.1.length : Nat) : Int) + 12 + (b.length : Nat) ≤ _; omega)⟩
  refine AWP.cond rfl (fun hb => ?_) (fun hb => ?_)
  · have hb : decide (((l.1.length : Nat) : Int) + 12 + (b.length : Nat) > 1048576) = true := hb
    have hb := of_decide_eq_true hb
    (repeat (first | refine AWP.seq ?_ | refine AWP.skip ?_ | refine AWP.label ?_ | refine AWP.exit ?_ | refine AWP.block ?_ | refine AWP.region hX kJn_ok rfl trivial ?_ | refine AWP.region hX kJn_ok rfl id ?_ | refine AWP.region hX kJn_ok rfl ⟨id, id⟩ ?_))
    refine AWP.ret ?_
    (repeat refine thenQ_ret ?_)
    have e0 : (appendS l b).1.1 = [] := by
      unfold appendS
      rw [if_pos hv, if_neg (by omega), if_pos (by omega)]
      rfl
    rw [e0]
    exact logR_nil rfl rfl rfl
  have hb : decide (((l.1.length : Nat) : Int) + 12 + (b.length : Nat) > 1048576) = false := hb
  have hb2 := of_decide_eq_false hb
  (try (refine AWP.skip ?_)); (first | refine AWPR.seq ?_ | refine thenQ_normal (AWPR.seq ?_) | skip); (repeat (first | refine AWP.seq ?_ | refine AWP.skip ?_ | refine AWP.block ?_ | refine AWP.exit ?_)); refine AWP.region hX kJn_ok rfl ?_ ?_
  · trivial
  have q1 : b.length ≤ 2000000 := by omega
  have hw := le4_word b.length (by omega)
  have hs := sha_length b
  have e : List.flatten [l.1, ([UInt8.ofNat (BitVec.ofInt 32 (b.length : Int)).toNat, UInt8.ofNat (BitVec.ofInt 32 (b.length : Int) >>> 8).toNat, UInt8.ofNat (BitVec.ofInt 32 (b.length : Int) >>> 16).toNat, UInt8.ofNat (BitVec.ofInt 32 (b.length : Int) >>> 24).toNat] : List UInt8), (sha b).take 8, b] = l.1 ++ rcd b := by
    rw [hw]
    simp [rcd]
  have q2 : (List.flatten [l.1, ([UInt8.ofNat (BitVec.ofInt 32 (b.length : Int)).toNat, UInt8.ofNat (BitVec.ofInt 32 (b.length : Int) >>> 8).toNat, UInt8.ofNat (BitVec.ofInt 32 (b.length : Int) >>> 16).toNat, UInt8.ofNat (BitVec.ofInt 32 (b.length : Int) >>> 24).toNat] : List UInt8), (sha b).take 8, b]).length ≤ 100000000 := by
    rw [e, List.length_append, rcd_length]; omega
  have eo : (appendS l b).1.1 = List.flatten [l.1, ([UInt8.ofNat (BitVec.ofInt 32 (b.length : Int)).toNat, UInt8.ofNat (BitVec.ofInt 32 (b.length : Int) >>> 8).toNat, UInt8.ofNat (BitVec.ofInt 32 (b.length : Int) >>> 16).toNat, UInt8.ofNat (BitVec.ofInt 32 (b.length : Int) >>> 24).toNat] : List UInt8), (sha b).take 8, b] := by
    rw [e]
    unfold appendS
    rw [if_pos hv, if_neg (by omega), if_neg (by omega)]
  rw [eo]
  (try (refine AWP.skip ?_)); (repeat refine thenQ_normal ?_)
  refine AWPR.retAfter ?_
  refine AWPR.draw dM hX kJn_ok 21 (by kernel_rfl) rfl ?_ (j0 := 18) (by decide) rfl rfl rfl rfl rfl rfl rfl rfl ?_
  · repeat' (first | exact trivial | assumption | exact q1 | exact q2 | (refine ⟨?_, ?_⟩) | (intro _) | exact Nat.le_of_ble_eq_true rfl | exact Int.natCast_nonneg _ | (simp_all [allP]; done))
  intro β a' w' u hs hn hx hne
  exact log_tail (vs := zLogH) (nx := 2) kJn_ok hG [(4, ⟨.hptr, (1, 0)⟩), (5, ⟨i64, (0 : Int)⟩), (55, ⟨.lit, u⟩), (57, ⟨i64, l.2.1⟩)] hs ⟨⟨rfl, rfl, rfl, rfl, trivial⟩, ⟨rfl, trivial⟩, rfl, rfl⟩ hn hx (fun h => hne h 1 _ rfl) rfl rfl rfl rfl rfl rfl rfl (fun A k c => by refine ⟨_, rfl, ?_, ?_, ?_⟩; exact trivial; exact rfl; exact rfl) fun a2 w2 hd hv => ⟨rfl, rfl, .inr rfl, hd, hv⟩
theorem repair_new : LogNew 9 [jl] (fun x => List.length x.1.1 ≤ 1100000) (fun x => (repairS x.1).1.1) := by
  refine log_of_walk (n := 29) Tryd.func9 rfl rfl (by decide) (by decide) ?_
  rintro w0 hG hX ⟨(l : Lg), _⟩ hp
  change AWPR _ _ _ _ _ ⟨[(0, ⟨jl, l⟩)], [], 0⟩ (LogR _ w0 (repairS l).1.1)
  have p1 : l.1.length ≤ 1100000 := hp
  have hle := recs_le l.1
  (try (refine AWP.skip ?_)); (first | refine AWPR.seq ?_ | refine thenQ_normal (AWPR.seq ?_) | skip); (repeat (first | refine AWP.seq ?_ | refine AWP.skip ?_ | refine AWP.block ?_ | refine AWP.exit ?_)); refine AWP.region hX kJn_ok rfl ?_ ?_
  · trivial
  (try (refine AWP.skip ?_)); (first | refine AWPR.seq ?_ | refine thenQ_normal (AWPR.seq ?_) | skip); (repeat (first | refine AWP.seq ?_ | refine AWP.skip ?_ | refine AWP.block ?_ | refine AWP.exit ?_)); refine AWP.region hX kJn_ok rfl ?_ ?_
  · trivial
  refine AWP.cond rfl (fun hb => ?_) (fun hb => ?_)
  · have hb : (!validL l) = true := hb
    have hv : ¬ validL l = true := by simpa using hb
    (repeat (first | refine AWP.seq ?_ | refine AWP.skip ?_ | refine AWP.label ?_ | refine AWP.exit ?_ | refine AWP.block ?_ | refine AWP.region hX kJn_ok rfl trivial ?_ | refine AWP.region hX kJn_ok rfl id ?_ | refine AWP.region hX kJn_ok rfl ⟨id, id⟩ ?_))
    refine AWP.ret ?_
    (repeat refine thenQ_ret ?_)
    have e0 : (repairS l).1.1 = [] := by
      unfold repairS
      rw [if_neg hv]
      rfl
    rw [e0]
    exact logR_nil rfl rfl rfl
  have hb : (!validL l) = false := hb
  have hv : validL l = true := by simpa using hb
  (try (refine AWP.skip ?_)); (first | refine AWPR.seq ?_ | refine thenQ_normal (AWPR.seq ?_) | skip); (repeat (first | refine AWP.seq ?_ | refine AWP.skip ?_ | refine AWP.block ?_ | refine AWP.exit ?_)); refine AWP.region hX kJn_ok rfl ?_ ?_
  · exact p1
  (try (refine AWP.skip ?_)); (first | refine AWPR.seq ?_ | refine thenQ_normal (AWPR.seq ?_) | skip); (repeat (first | refine AWP.seq ?_ | refine AWP.skip ?_ | refine AWP.block ?_ | refine AWP.exit ?_)); refine AWP.region hX kJn_ok rfl ?_ ?_
  · trivial
  refine AWP.cond rfl (fun hb => ?_) (fun hb => ?_)
  · have hb : decide (((recs l.1).2 : Int) < l.2.1) = true := hb
    have hb := of_decide_eq_true hb
    (repeat (first | refine AWP.seq ?_ | refine AWP.skip ?_ | refine AWP.label ?_ | refine AWP.exit ?_ | refine AWP.block ?_ | refine AWP.region hX kJn_ok rfl trivial ?_ | refine AWP.region hX kJn_ok rfl id ?_ | refine AWP.region hX kJn_ok rfl ⟨id, id⟩ ?_))
    refine AWP.ret ?_
    (repeat refine thenQ_ret ?_)
    have e0 : (repairS l).1.1 = [] := by
      unfold repairS
      rw [if_pos hv, if_pos hb]
      rfl
    rw [e0]
    exact logR_nil rfl rfl rfl
  have hb : decide (((recs l.1).2 : Int) < l.2.1) = false := hb
  have hb1 := of_decide_eq_false hb
  have e : List.flatten [l.1.take (((recs l.1).2 : Nat) : Int).toNat] = l.1.take (recs l.1).2 := by simp
  have eo : (repairS l).1.1 = List.flatten [l.1.take (((recs l.1).2 : Nat) : Int).toNat] := by
    rw [e]
    unfold repairS
    rw [if_pos hv, if_neg hb1]
  rw [eo]
  (try (refine AWP.skip ?_)); (repeat refine thenQ_normal ?_)
  refine AWPR.retAfter ?_
  refine AWPR.own hX kJn_ok 7 rfl ?_ (d0 := 26) (k := 3) rfl rfl ?_
  · refine ⟨by show (0 : Int) ≤ (((recs l.1).2 : Nat) : Int); omega, by show (((recs l.1).2 : Nat) : Int) ≤ ((l.1.length : Nat) : Int); omega, ?_⟩
    show (List.flatten [l.1.take (((recs l.1).2 : Nat) : Int).toNat]).length ≤ 100000000
    rw [e, List.length_take]; omega
  intro β a' w' u hs hn hx hne
  exact log_tail (vs := zLogH) (nx := 4) kJn_ok hG [(2, ⟨.hptr, (1, 0)⟩), (3, ⟨i64, (0 : Int)⟩), (26, ⟨.lit, u⟩), (27, ⟨i64, (((recs l.1).2 : Nat) : Int)⟩)] hs ⟨⟨rfl, rfl, rfl, rfl, trivial⟩, ⟨rfl, trivial⟩, rfl, rfl⟩ hn hx (fun _ => hne 1 _ rfl (by decide)) rfl rfl rfl rfl rfl rfl rfl (fun A k c => by refine ⟨_, rfl, ?_, ?_, ?_⟩; exact trivial; exact rfl; exact rfl) fun a2 w2 hd hv => ⟨rfl, rfl, .inr rfl, hd, hv⟩
theorem crash_new : LogNew 8 [jl, jt] (fun x => List.length x.1.1 ≤ 1100000) (fun x => (crashS x.1 x.2.1).1.1) := by
  refine log_of_walk (n := 57) Tryd.func8 rfl rfl (by decide) (by decide) ?_
  rintro w0 hG hX ⟨(l : Lg), (t : Tr), _⟩ hp
  change AWPR _ _ _ _ _ ⟨[(0, ⟨jl, l⟩), (1, ⟨jt, t⟩)], [], 0⟩ (LogR _ w0 (crashS l t).1.1)
  have p1 : l.1.length ≤ 1100000 := hp
  (try (refine AWP.skip ?_)); (first | refine AWPR.seq ?_ | refine thenQ_normal (AWPR.seq ?_) | skip); (repeat (first | refine AWP.seq ?_ | refine AWP.skip ?_ | refine AWP.block ?_ | refine AWP.exit ?_)); refine AWP.region hX kJn_ok rfl ?_ ?_
  · trivial
  (try (refine AWP.skip ?_)); (first | refine AWPR.seq ?_ | refine thenQ_normal (AWPR.seq ?_) | skip); (repeat (first | refine AWP.seq ?_ | refine AWP.skip ?_ | refine AWP.block ?_ | refine AWP.exit ?_)); refine AWP.region hX kJn_ok rfl ?_ ?_
  · repeat' (first | exact trivial | assumption | (refine ⟨?_, ?_⟩) | (intro _) | exact Nat.le_of_ble_eq_true rfl | exact Int.natCast_nonneg _ | (simp_all [allP]; done))
  refine AWP.cond rfl (fun hb => ?_) (fun hb => ?_)
  · have hb : (bif !validL l then true else decide (t.1 < 0)) = true := hb
    (repeat (first | refine AWP.seq ?_ | refine AWP.skip ?_ | refine AWP.label ?_ | refine AWP.exit ?_ | refine AWP.block ?_ | refine AWP.region hX kJn_ok rfl trivial ?_ | refine AWP.region hX kJn_ok rfl id ?_ | refine AWP.region hX kJn_ok rfl ⟨id, id⟩ ?_))
    refine AWP.ret ?_
    (repeat refine thenQ_ret ?_)
    have e0 : (crashS l t).1.1 = [] := by
      unfold crashS
      rw [if_neg]
      · rfl
      rintro ⟨h1, h2⟩
      rw [h1, decide_eq_false (by omega)] at hb
      cases hb
    rw [e0]
    exact logR_nil rfl rfl rfl
  have hb : (bif !validL l then true else decide (t.1 < 0)) = false := hb
  have hv : validL l = true := by
    cases h : validL l with
    | true => rfl
    | false => rw [h] at hb; cases hb
  have hk : 0 ≤ t.1 := by
    rw [hv] at hb
    have : decide (t.1 < 0) = false := hb
    have := of_decide_eq_false this
    omega
  obtain ⟨⟨s1, s2⟩, s3⟩ := validL_iff.1 hv
  have e3 : List.flatten [l.1.drop l.2.1.toNat] = l.1.drop l.2.1.toNat := by simp
  (try (refine AWP.skip ?_)); (first | refine AWPR.seq ?_ | refine thenQ_normal (AWPR.seq ?_) | skip); (repeat (first | refine AWP.seq ?_ | refine AWP.skip ?_ | refine AWP.block ?_ | refine AWP.exit ?_)); refine AWP.region hX kJn_ok rfl ?_ ?_
  · refine ⟨s1, s2, ?_⟩
    show (List.flatten [l.1.drop l.2.1.toNat]).length ≤ 100000000
    rw [e3, List.length_drop]; omega
  (try refine thenQ_normal ?_); refine AWPR.fit (σ2 := ⟨[(2, ⟨.optr jl, ⟨0, jl, .here⟩⟩), (3, ⟨.optr jt, ⟨1, jt, .here⟩⟩), (4, ⟨.hptr, (2, 0)⟩), (5, ⟨i64, (0 : Int)⟩), (6, ⟨.obuf u8, (4 : Nat)⟩)], [(0, some (.box jl l)), (1, some (.box jt t)), (2, some (.hbox zLogH)), (4, some (.buf 5 u8 (l.1.drop l.2.1.toNat)))], 5⟩) ⟨⟨rfl, rfl, rfl, rfl, rfl, trivial⟩, ⟨rfl, rfl, rfl, bufEq e3, trivial⟩, rfl, rfl⟩ rfl ?_
  obtain ⟨r0, hr0⟩ : ∃ r0, l.1.drop l.2.1.toNat = r0 := ⟨_, rfl⟩
  have hl0 : r0.length ≤ l.1.length := by rw [← hr0, List.length_drop]; omega
  rw [hr0]
  (try (refine AWP.skip ?_)); (first | refine AWPR.seq ?_ | refine thenQ_normal (AWPR.seq ?_) | skip); (repeat (first | refine AWP.seq ?_ | refine AWP.skip ?_ | refine AWP.block ?_ | refine AWP.exit ?_)); refine AWP.region hX kCn_ok rfl ?_ ?_
  · exact ⟨by show (0 : Int) ≤ min t.1 (r0.length : Nat); omega, by show min t.1 ((r0.length : Nat) : Int) ≤ ((r0.length : Nat) : Int); omega⟩
  have hmin : r0.take (min t.1 ((r0.length : Nat) : Int)).toNat = r0.take t.1.toNat := by
    rw [List.take_eq_take_iff]
    omega
  (try refine thenQ_normal ?_); refine AWPR.fit (σ2 := ⟨[(2, ⟨.optr jl, ⟨0, jl, .here⟩⟩), (3, ⟨.optr jt, ⟨1, jt, .here⟩⟩), (4, ⟨.hptr, (2, 0)⟩), (5, ⟨i64, (0 : Int)⟩), (6, ⟨.obuf u8, (4 : Nat)⟩)], [(0, some (.box jl l)), (1, some (.box jt t)), (2, some (.hbox zLogH)), (4, some (.buf 5 u8 (r0.take t.1.toNat)))], 5⟩) ⟨⟨rfl, rfl, rfl, rfl, rfl, trivial⟩, ⟨rfl, rfl, rfl, bufEq hmin, trivial⟩, rfl, rfl⟩ rfl ?_
  obtain ⟨r1, hr1⟩ : ∃ r1, r0.take t.1.toNat = r1 := ⟨_, rfl⟩
  have hl1 : r1.length ≤ r0.length := by rw [← hr1, List.length_take]; omega
  rw [hr1]
  (try (refine AWP.skip ?_)); (first | refine AWPR.seq ?_ | refine thenQ_normal (AWPR.seq ?_) | skip); (repeat (first | refine AWP.seq ?_ | refine AWP.skip ?_ | refine AWP.block ?_ | refine AWP.exit ?_)); refine AWP.region hX dK_ok rfl ?_ ?_
  · repeat' (first | exact trivial | assumption | (refine ⟨?_, ?_⟩) | (intro _) | exact Nat.le_of_ble_eq_true rfl | exact Int.natCast_nonneg _ | (simp_all [allP]; done))
  have fin : ∀ r : List UInt8, r.length = r1.length → torn (l.1.drop l.2.1.toNat) t = r → List.flatten [l.1.take l.2.1.toNat, r] = l.1.take l.2.1.toNat ++ r ∧ (List.flatten [l.1.take l.2.1.toNat, r]).length ≤ 100000000 := fun r h1 _ => by
    have e : List.flatten [l.1.take l.2.1.toNat, r] = l.1.take l.2.1.toNat ++ r := by simp
    refine ⟨e, ?_⟩
    rw [e, List.length_append, List.length_take]; omega
  refine AWP.cond rfl (fun hb => ?_) (fun hb => ?_)
  · have hb : (bif decide ((0 : Int) ≤ t.2.1) then decide (t.2.1 < (r1.length : Nat)) else false) = true := hb
    rw [test2] at hb
    obtain ⟨b1, b2⟩ := hb
    have b3 : t.2.1.toNat < r1.length := by omega
    (try (refine AWP.skip ?_)); (first | refine AWPR.seq ?_ | refine thenQ_normal (AWPR.seq ?_) | skip); (repeat (first | refine AWP.seq ?_ | refine AWP.skip ?_ | refine AWP.block ?_ | refine AWP.exit ?_)); refine AWP.region hX dK_ok rfl ?_ ?_
    · exact ⟨b1, b2, b3⟩
    have htorn : torn (l.1.drop l.2.1.toNat) t = r1.set t.2.1.toNat t.2.2.1 := by
      unfold torn
      rw [hr0, hr1, if_pos ⟨b1, b2⟩]
    obtain ⟨e9, q9⟩ := fin (r1.set t.2.1.toNat t.2.2.1) (by rw [List.length_set]) htorn
    (try refine thenQ_normal ?_); refine AWPR.fit (σ2 := ⟨[(2, ⟨.optr jl, ⟨0, jl, .here⟩⟩), (3, ⟨.optr jt, ⟨1, jt, .here⟩⟩), (4, ⟨.hptr, (2, 0)⟩), (5, ⟨i64, (0 : Int)⟩), (6, ⟨.obuf u8, (4 : Nat)⟩)], [(0, some (.box jl l)), (1, some (.box jt t)), (2, some (.hbox zLogH)), (4, some (.buf 5 u8 (r1.set t.2.1.toNat t.2.2.1)))], 5⟩) ⟨⟨rfl, rfl, rfl, rfl, rfl, trivial⟩, ⟨rfl, rfl, rfl, rfl, trivial⟩, rfl, rfl⟩ rfl ?_
    generalize r1.set t.2.1.toNat t.2.2.1 = r at *
    refine AWPR.frz hX 6 ?_
    have eo : (crashS l t).1.1 = List.flatten [l.1.take l.2.1.toNat, r] := by
      rw [e9]
      unfold crashS
      rw [if_pos ⟨hv, hk⟩, htorn]
    rw [eo]
    refine AWPR.retAfter ?_
    refine AWPR.draw dM hX kJn_ok 10 (by kernel_rfl) rfl ?_ (j0 := 7) (by decide) rfl rfl rfl rfl rfl rfl rfl rfl ?_
    · repeat' (first | exact trivial | assumption | exact s1 | exact s2 | exact q9 | (refine ⟨?_, ?_⟩) | (intro _) | exact Nat.le_of_ble_eq_true rfl | exact Int.natCast_nonneg _ | (simp_all [allP]; done))
    intro β a' w' u hs hn hx hne
    exact log_tail (vs := zLogH) (nx := 5) kJn_ok hG [(4, ⟨.hptr, (2, 0)⟩), (5, ⟨i64, (0 : Int)⟩), (53, ⟨.lit, u⟩), (55, ⟨i64, l.2.1⟩)] hs ⟨⟨rfl, rfl, rfl, rfl, trivial⟩, ⟨rfl, trivial⟩, rfl, rfl⟩ hn hx (fun h => hne h 2 _ rfl) rfl rfl rfl rfl rfl rfl rfl (fun A k c => by refine ⟨_, rfl, ?_, ?_, ?_⟩; exact trivial; exact rfl; exact rfl) fun a2 w2 hd hv => ⟨rfl, rfl, .inr rfl, hd, hv⟩
  · have hb : (bif decide ((0 : Int) ≤ t.2.1) then decide (t.2.1 < (r1.length : Nat)) else false) = false := hb
    have hb : ¬ (0 ≤ t.2.1 ∧ t.2.1 < ((r1.length : Nat) : Int)) := fun h => by rw [← Bool.not_eq_true, test2] at hb; exact hb h
    refine AWP.skip ?_
    have htorn : torn (l.1.drop l.2.1.toNat) t = r1 := by
      unfold torn
      rw [hr0, hr1, if_neg hb]
    obtain ⟨e9, q9⟩ := fin r1 rfl htorn
    (try refine thenQ_normal ?_); refine AWPR.fit (σ2 := ⟨[(2, ⟨.optr jl, ⟨0, jl, .here⟩⟩), (3, ⟨.optr jt, ⟨1, jt, .here⟩⟩), (4, ⟨.hptr, (2, 0)⟩), (5, ⟨i64, (0 : Int)⟩), (6, ⟨.obuf u8, (4 : Nat)⟩)], [(0, some (.box jl l)), (1, some (.box jt t)), (2, some (.hbox zLogH)), (4, some (.buf 5 u8 (r1)))], 5⟩) ⟨⟨rfl, rfl, rfl, rfl, rfl, trivial⟩, ⟨rfl, rfl, rfl, rfl, trivial⟩, rfl, rfl⟩ rfl ?_
    generalize r1 = r at *
    refine AWPR.frz hX 6 ?_
    have eo : (crashS l t).1.1 = List.flatten [l.1.take l.2.1.toNat, r] := by
      rw [e9]
      unfold crashS
      rw [if_pos ⟨hv, hk⟩, htorn]
    rw [eo]
    refine AWPR.retAfter ?_
    refine AWPR.draw dM hX kJn_ok 10 (by kernel_rfl) rfl ?_ (j0 := 7) (by decide) rfl rfl rfl rfl rfl rfl rfl rfl ?_
    · repeat' (first | exact trivial | assumption | exact s1 | exact s2 | exact q9 | (refine ⟨?_, ?_⟩) | (intro _) | exact Nat.le_of_ble_eq_true rfl | exact Int.natCast_nonneg _ | (simp_all [allP]; done))
    intro β a' w' u hs hn hx hne
    exact log_tail (vs := zLogH) (nx := 5) kJn_ok hG [(4, ⟨.hptr, (2, 0)⟩), (5, ⟨i64, (0 : Int)⟩), (53, ⟨.lit, u⟩), (55, ⟨i64, l.2.1⟩)] hs ⟨⟨rfl, rfl, rfl, rfl, trivial⟩, ⟨rfl, trivial⟩, rfl, rfl⟩ hn hx (fun h => hne h 2 _ rfl) rfl rfl rfl rfl rfl rfl rfl (fun A k c => by refine ⟨_, rfl, ?_, ?_, ?_⟩; exact trivial; exact rfl; exact rfl) fun a2 w2 hd hv => ⟨rfl, rfl, .inr rfl, hd, hv⟩
end Go.Proofs.YthhphphdbgkdgaaDoor
