/-
  The statement JournalPurity, from the first call on: by hand.
-/
import Derived.Test.YthhphphdbgkdgaaDoorJPur
import Derived.Test.YthhphphdbgkdgaaDoorJAll
namespace Go.Proofs.YthhphphdbgkdgaaDoor
open Go Go.RowKit
set_option linter.unusedSimpArgs false
set_option linter.unusedVariables false
set_option maxRecDepth 100000
def PurR (w0 : World) : Exit → Act → World → Prop := fun e a w => (e = .normal ∨ e = .ret) ∧ a.defers = [] ∧ Below w0.heap.size w0 w ∧ a.tmps.getD 4 undef = .bool true
/-- a variable that lay there before -/
def OldB (w1 : World) (g : Nat) (τ : Ty) (x : τ.T) : Prop := g < w1.heap.size ∧ ∃ cs, RepC w1 noO τ x cs ∧ CellsAt w1 g 0 cs
theorem OldB.load {w1 w : World} {g : Nat} {τ : Ty} {x : τ.T} (h : OldB w1 g τ x) (hb : Below w1.heap.size w1 w) {t : TypeId} (hl : Lay Tryd.prog τ (.inl t)) (ha : τ.isAgg = true) : ∃ v, (Go.loadVar t ⟨g, 0, none⟩).run Tryd.prog w = .ok v w ∧ RepD w noO τ x v := by
  obtain ⟨h1, cs, h2, h3⟩ := h
  have h4 : RepC w noO τ x cs := RepC.keep (.of_below hb fun _ _ h => h) _ _ _ h2
  have h5 : CellsAt w g 0 cs := h3.keep (hb.block g h1)
  exact ⟨_, loadAgg hl ha (RepC.len _ _ _ h4) h5, (RepD.agg ha).2 ⟨cs, rfl, h4⟩⟩
theorem OldB.of {w0 w : World} {X : Ownr} {n : Nat} {σ : AS} {β : Nat → Value} {a : Act} (hs : Sim w0 X n σ β a w) {s i : Nat} {τ : Ty} {x : τ.T} (hi : Owns.get σ.E i = some (.box τ x)) (hf : Frame.get σ.F s = ⟨.optr τ, ⟨i, τ, .here⟩⟩) : ∃ g, a.tmps.getD s undef = .pointer (some ⟨g, 0, none⟩) ∧ OldB w g τ x := by
  obtain ⟨g, cs, ty, e1, _, e3, e4⟩ := hs.own i _ hi
  have hv := hs.fr s
  rw [hf] at hv
  obtain ⟨g', hg1, hg2⟩ : ∃ g', blockOf (β i) = some g' ∧ a.tmps.getD s undef = .pointer (some ⟨g', 0, none⟩) := hv
  rw [e1] at hg1
  cases hg1
  refine ⟨_, hg2, (Array.getElem?_eq_some_iff.1 e3).1, cs, RepC.keep ⟨Nat.le_refl _, fun _ _ _ => rfl, fun _ _ h => h.elim⟩ _ _ _ e4, fun j u hu => ?_⟩
  unfold World.cell?
  rw [e3]
  simp only [Option.isSome_none, Bool.false_eq_true, if_false, Nat.zero_add]
  rw [List.getElem?_toArray]
  exact hu
theorem assign_run {P : Program} {a : Act} {w : World} {o : Oper} {x : Operand} {u : Value} (h : o.op = .assign x) (hx : a.eval x = u) : (execOp a.eval o).run P w = .ok (.value u) w := by
  unfold execOp
  simp only [h]
  rw [hx]
  rfl
theorem crash_len (l : Lg) (t : Tr) : (crashS l t).1.1.length ≤ l.1.length := by
  unfold crashS
  split
  · show (l.1.take l.2.1.toNat ++ torn (l.1.drop l.2.1.toNat) t).length ≤ _
    have h : (torn (l.1.drop l.2.1.toNat) t).length ≤ (l.1.drop l.2.1.toNat).length := by
      unfold torn
      split
      · rw [List.length_set, List.length_take]; omega
      · rw [List.length_take]; omega
    rw [List.length_append, List.length_take]
    rw [List.length_drop] at h
    omega
  · exact Nat.zero_le _
theorem Lives.from {w0 w1 w : World} {v : Value} (h : Lives w1 w v) (hs : w0.heap.size ≤ w1.heap.size) : Lives w0 w v := h.imp id fun ⟨te, h⟩ => ⟨te, h.from hs⟩
theorem Rows.grow {w0 w w' : World} {v : Value} (h : Rows w0 w v) (hb : Below w.heap.size w w') : Rows w0 w' v := by
  rcases h with h | ⟨g, cap, te, C, L, h1, h2, h3, hL, h4, h5, h6, h7⟩
  · exact .inl h
  · exact .inr ⟨g, cap, te, C, L, h1, h2, h3, hL, (hb.block g (Array.getElem?_eq_some_iff.1 h4).1).trans h4, h5, h6, fun i hi => by obtain ⟨c, e1, e2⟩ := h7 i hi; exact ⟨c, e1, e2.grow hb⟩⟩
theorem CellsAt.grow {w w' : World} {g off : Nat} {u : Value} {vs : List Value} (h : CellsAt w g off (u :: vs)) (hb : Below w.heap.size w w') : CellsAt w' g off (u :: vs) := by
  refine h.keep (hb.block g ?_)
  have := h 0 u rfl
  unfold World.cell? at this
  cases ho : w.heap[g]? with
  | none => simp [ho] at this
  | some o => exact (Array.getElem?_eq_some_iff.1 ho).1
/-- the code behind some regions -/
def tailSeq : Nat → Code → Code
  | 0, c => c
  | n + 1, .seq _ b => tailSeq n b
  | _, c => c
noncomputable def purBody : Code := match Tryd.f3.body with
  | some c => c
  | none => .skip
theorem cell0 {w : World} {g : Nat} {u : Value} {vs : List Value} (h : CellsAt w g 0 (u :: vs)) : w.cell? ⟨g, 0, none⟩ = some u := h 0 u rfl
theorem four_run {a : Act} {w : World} {o : Oper} {x1 x2 x3 x4 : Operand} {A1 A2 A3 A4 : Option Addr} {m1 m2 m3 m4 c1 c2 c3 c4 : Nat} (h : o.op = .buildSlice 22 4 #[(0, x1), (1, x2), (2, x3), (3, x4)]) (h1 : a.eval x1 = .slice A1 m1 c1) (h2 : a.eval x2 = .slice A2 m2 c2) (h3 : a.eval x3 = .slice A3 m3 c3) (h4 : a.eval x4 = .slice A4 m4 c4) :
    (execOp a.eval o).run Tryd.prog w = .ok (.value (.slice (some ⟨w.heap.size, 0, none⟩) 4 4)) (w.alloc (.cells #[.slice A1 m1 c1, .slice A2 m2 c2, .slice A3 m3 c3, .slice A4 m4 c4] 27)) := by
  have hl : Lay Tryd.prog bs (.inl 27) := dK_ok.t.lay _ _ rfl
  obtain ⟨ie, ze, hie, hse, hze, hzc, _⟩ := hl.info
  have hse : ie.size = 1 := hse
  have hrun := run_buildSlice (P := Tryd.prog) w 22 27 4 #[(0, .slice A1 m1 c1), (1, .slice A2 m2 c2), (2, .slice A3 m3 c3), (3, .slice A4 m4 c4)] #[.slice A1 m1 c1, .slice A2 m2 c2, .slice A3 m3 c3, .slice A4 m4 c4] ie ze Tryd.underlying22 hie hze (by rw [hse]; decide) (by rw [hse]; decide) (by rw [hse, hzc]; kernel_rfl)
  unfold execOp
  simp only [h]
  have em : Array.map (fun x : Nat × Operand => (x.1, a.eval x.2)) #[(0, x1), (1, x2), (2, x3), (3, x4)] = #[(0, .slice A1 m1 c1), (1, .slice A2 m2 c2), (2, .slice A3 m3 c3), (3, .slice A4 m4 c4)] := by simp [h1, h2, h3, h4]
  rw [em]
  exact run_v hrun
theorem appb_run {P : Program} {a : Act} {w w' : World} {o : Oper} {x y : Operand} {t : TypeId} {u v r : Value} (h : o.op = .call ⟨.builtin .append, #[x, y], #[t, t]⟩) (hx : a.eval x = u) (hy : a.eval y = v) (hr : (Builtin.append_ #[t, t] o.type #[u, v]).run P w = .ok r w') : (execOp a.eval o).run P w = .ok (.value r) w' := by
  subst hx; subst hy
  unfold execOp
  simp [h, resolve, invoke, builtin, hr]
theorem app_run {w1 wz w : World} {v r : Value} {hs : List Value} {n : Nat} (hrow : w.ownsRow w1.heap.size 27 1 v n hs) (hpos : 0 < n) (hl : ∀ h ∈ hs, Lives w1 wz h) (hn : n ≤ 10) (hr : Rows w1 wz r) (hb : Below wz.heap.size wz w) (hw : w1.heap.size ≤ w.heap.size) (ty : TypeId) : ∃ v' w' n' hs', (Builtin.append_ #[22, 22] ty #[v, r]).run Tryd.prog w = .ok v' w' ∧ w.grownBy w' v.ownBlock ∧ n' ≤ 1200000 ∧ w'.ownsRow w1.heap.size 27 1 v' n' hs' ∧ 0 < n' ∧ ∀ h ∈ hs', Lives w1 wz h := by
  have hlB : Lay Tryd.prog bs (.inl 27) := dK_ok.t.lay _ _ rfl
  obtain ⟨i, z, hi, hsz, hz, hzc, hby⟩ := hlB.info
  have hsz : i.size = 1 := hsz
  have hzs : z.cells.size = 1 := by rw [hzc]; rfl
  have hbig : i.bytes ≤ 100000 := by
    have : i.bytes ≤ 24 * bs.size := hby
    have e : bs.size = 1 := rfl
    omega
  have key : ∀ (A : Addr) (m c : Nat) (news : List Value), news.length = m → (∀ j u, news[j]? = some u → w.cell? (A.add j) = some u) → (∀ u ∈ news, Lives w1 wz u) → m ≤ 1100000 → r = .slice (some A) m c → ∃ v' w' n' hs', (Builtin.append_ #[22, 22] ty #[v, r]).run Tryd.prog w = .ok v' w' ∧ w.grownBy w' v.ownBlock ∧ n' ≤ 1200000 ∧ w'.ownsRow w1.heap.size 27 1 v' n' hs' ∧ 0 < n' ∧ ∀ h ∈ hs', Lives w1 wz h := by
    intro A m c news hm hnews hli hmb e
    subst e
    have hbb : (n + m) * i.bytes ≤ 140737488355328 := by
      have := Nat.mul_le_mul (show n + m ≤ 1200000 by omega) hbig
      omega
    obtain ⟨v', w', k1, k2, k3, _⟩ := run_append_own (P := Tryd.prog) w w1.heap.size 22 ty 27 i z 1 i.bytes Tryd.underlying22 hi hz hsz rfl hzs (by decide) v n hs hrow A m c news (by rw [hm, Nat.mul_one]) hnews (fun u hu => by obtain ⟨A', m', c', e, _⟩ := (hli u hu).form; rw [e]; rfl) (by unfold maxLen; omega) hbb hw
    refine ⟨v', w', n + m, hs ++ news, k1, k3, by omega, k2, by omega, fun h hh => ?_⟩
    rcases List.mem_append.1 hh with h9 | h9
    · exact hl h h9
    · exact hli h h9
  rcases hr with ⟨A, c, rfl⟩ | ⟨g, cap, te, C, L, rfl, h2, h3, hL, h4, h5, h6, h7⟩
  · cases A with
    | some ad => exact key ad 0 c [] rfl (fun j u hu => by simp at hu) (fun u hu => by cases hu) (by omega) rfl
    | none =>
      have hrun : (Builtin.append_ #[22, 22] ty #[v, .slice none 0 c]).run Tryd.prog w = .ok v w := by
        rcases hrow.2 with ⟨_, hz⟩ | ⟨g', cap, cur, rfl, hbg, hg', hnc, hcm, hcs, htake⟩
        · omega
        · simp [Builtin.append_, run_underlying Tryd.underlying22, Go.sizeOf, typeInfo, hi, Builtin.lenOf, Builtin.firstCells, hnc, storeCells]
      exact ⟨v, w, n, hs, hrun, ⟨rfl, rfl, rfl, Nat.le_refl _, fun _ _ _ => rfl⟩, by omega, hrow, hpos, hl⟩
  · have hCl : C.toList.length = C.size := Array.length_toList
    refine key ⟨g, 0, none⟩ L cap (C.toList.take L) (by rw [List.length_take]; omega) (fun j u hu => ?_) (fun u hu => ?_) hL rfl
    · rw [Addr.add_mid]
      rw [List.getElem?_take] at hu
      split at hu
      · unfold World.cell?
        rw [(hb.block g (Array.getElem?_eq_some_iff.1 h4).1).trans h4]
        simp only [Option.isSome_none, Bool.false_eq_true, if_false, Nat.zero_add]
        rw [← Array.getElem?_toList]
        exact hu
      · cases hu
    · obtain ⟨q, hq⟩ := List.mem_iff_getElem?.1 hu
      rw [List.getElem?_take] at hq
      split at hq
      · rename_i hql
        obtain ⟨c', e1, e2⟩ := h7 q hql
        rw [Array.getElem?_toList, e1] at hq
        cases hq
        exact e2
      · cases hq
theorem pur_rest (w0 : World) (O : Nat → Prop) (hG : dG w0) (hX : (Ownr.plain dG O).Ok w0) (t : Tr) (A : Lg) (hle : A.1.length ≤ 1100000) (b nx : Nat) (hb : hasN [0, 1] b = false) :
    AWPR Tryd.prog w0 (Ownr.plain dG O) 109 (tailSeq 6 purBody) ⟨[(3, ⟨.optr jt, ⟨0, jt, .here⟩⟩), (5, ⟨.bool, true⟩), (7, ⟨.optr jl, ⟨1, jl, .here⟩⟩), (9, ⟨.optr jl, ⟨b, jl, .here⟩⟩)], [(0, some (.box jt t)), (1, some (.box jl A)), (b, some (.box jl A))], nx⟩ (PurR w0) := by
  intro β a w hs
  have hbw : Below w0.heap.size w0 w := hs.bel.below (Ownr.plain_noR _ _)
  have hGw : dG w := dK_ok.st w0 w hG hbw
  have hb0 : Nat.beq 0 b = false := by
    cases h : Nat.beq 0 b with
    | true => simp only [hasN, h, cond_true] at hb; cases hb
    | false => rfl
  have hb1 : Nat.beq 1 b = false := by
    cases h : Nat.beq 1 b with
    | true => simp only [hasN, hb0, h, cond_true, cond_false] at hb; cases hb
    | false => rfl
  obtain ⟨g3, v3, o3⟩ := OldB.of hs (s := 3) (i := 0) (τ := jt) (x := t) rfl rfl
  obtain ⟨g7, v7, o7⟩ := OldB.of hs (s := 7) (i := 1) (τ := jl) (x := A) rfl rfl
  obtain ⟨g9, v9, o9⟩ := OldB.of hs (s := 9) (i := b) (τ := jl) (x := A) (by simp only [Owns.get, hb0, hb1, cond_false, Nat.beq_refl, cond_true]) rfl
  have hd0 : Hd 109 [(3, ⟨.lit, .pointer (some ⟨g3, 0, none⟩)⟩), (5, ⟨.bool, true⟩), (7, ⟨.lit, .pointer (some ⟨g7, 0, none⟩)⟩), (9, ⟨.lit, .pointer (some ⟨g9, 0, none⟩)⟩)] a w := by
    have h9 := ((hs.litAt 3).litAt 7).litAt 9
    rw [v3, v7, v9] at h9
    exact Hd.of h9 rfl ⟨rfl, rfl, rfl, rfl, trivial⟩ rfl
  clear hs v3 v7 v9
  have lyL : Lay Tryd.prog jl (.inl 29) := dK_ok.t.lay _ _ rfl
  have lyT : Lay Tryd.prog jt (.inl 24) := dK_ok.t.lay _ _ rfl
  -- Records
  refine region_then ?_
  obtain ⟨x1, x2, x3⟩ := o7.load (Below.refl _ _) lyL rfl
  refine hd0.step (d := 42) rfl rfl rfl (load_run rfl (hd0.val (s := 7) rfl) x2) fun a1 h1 => ?_
  refine h1.call (d := 43) rfl rfl rfl rfl Tryd.call7 (Φ := fun v w' => ∃ r x y, v = .tuple #[r, x, y] ∧ Rows w w' r) ?_ fun a2 y2 w2 hb2 hΦ h2 => ?_
  · have hv : a1.tmps.getD 42 undef = x1 := h1.val (s := 42) rfl
    show Calls _ _ (List.toArray [a1.tmps.getD 42 undef]) _ _
    rw [hv]
    exact (records_new w A [x1] ⟨x1, [], rfl, x3, rfl⟩ hle hGw).mono fun e w' ⟨r, x, y, e1, e2, e3⟩ => ⟨_, e1, e2, r, x, y, rfl, e3⟩
  obtain ⟨r, y3, y4, rfl, hr2⟩ := hΦ
  refine h2.step (d := 41) rfl rfl rfl (move_run rfl (h2.val (s := 43) rfl)) fun a3 h3 => ?_
  refine h3.step (d := 44) rfl rfl rfl (ext_run rfl (h3.val (s := 41) rfl) rfl) fun a4 h4 => ?_
  refine h4.step (d := 45) rfl rfl rfl (ext_run rfl (h4.val (s := 41) rfl) rfl) fun a5 h5 => ?_
  refine h5.step (d := 46) rfl rfl rfl (ext_run rfl (h5.val (s := 41) rfl) rfl) fun a6 h6 => ?_
  refine h6.step (d := 10) rfl rfl rfl (assign_run rfl (h6.val (s := 44) rfl)) fun a7 h7 => ?_
  refine h7.step (d := 11) rfl rfl rfl (assign_run rfl (h7.val (s := 45) rfl)) fun a8 h8 => ?_
  refine h8.step (d := 12) rfl rfl rfl (assign_run rfl (h8.val (s := 46) rfl)) fun a9 h9 => ?_
  refine ⟨rfl, ?_⟩
  have hd1 := h9.sub (F' := [(3, ⟨.lit, .pointer (some ⟨g3, 0, none⟩)⟩), (5, ⟨.bool, true⟩), (7, ⟨.lit, .pointer (some ⟨g7, 0, none⟩)⟩), (9, ⟨.lit, .pointer (some ⟨g9, 0, none⟩)⟩), (10, ⟨.lit, r⟩)]) ⟨rfl, rfl, rfl, rfl, rfl, trivial⟩
  clear h1 h2 h3 h4 h5 h6 h7 h8 h9 x2 x3 hd0
  have hG2 : dG w2 := dK_ok.st w w2 hGw hb2
  -- Crash
  refine region_then ?_
  obtain ⟨u1, u2, u3⟩ := o7.load hb2 lyL rfl
  obtain ⟨u4, u5, u6⟩ := o3.load hb2 lyT rfl
  refine hd1.step (d := 48) rfl rfl rfl (load_run rfl (hd1.val (s := 7) rfl) u2) fun b1 h1 => ?_
  refine h1.step (d := 49) rfl rfl rfl (load_run rfl (h1.val (s := 3) rfl) u5) fun b2 h2 => ?_
  refine logStage (c := 50) (m := 47) (e0 := 51) (e1 := 52) (b := 13) (xs := (crashS A t).1.1) hG2 h2 rfl rfl rfl rfl Tryd.call8 ?_ rfl rfl rfl rfl rfl rfl rfl rfl rfl rfl (by decide) (fun _ _ _ _ _ _ => by refine ⟨_, rfl, ?_, ?_, ?_, ?_⟩; exact trivial; exact rfl; exact rfl; exact ⟨rfl, rfl, rfl, rfl, rfl, rfl, rfl, trivial⟩) rfl rfl fun b3 w3 g13 uc zc hb3 hl3 hx3 hc3 h3 => ?_
  · have e1 : b2.tmps.getD 48 undef = u1 := h2.val (s := 48) rfl
    have e2 : b2.tmps.getD 49 undef = u4 := h2.val (s := 49) rfl
    show Calls _ _ (List.toArray [b2.tmps.getD 48 undef, b2.tmps.getD 49 undef]) _ _
    rw [e1, e2]
    exact crash_new w2 (A, t, ()) [u1, u4] ⟨u1, [u4], rfl, u3, u4, [], rfl, u6, rfl⟩ hle hG2
  refine ⟨rfl, ?_⟩
  have hd2 := h3.sub (F' := [(3, ⟨.lit, .pointer (some ⟨g3, 0, none⟩)⟩), (5, ⟨.bool, true⟩), (7, ⟨.lit, .pointer (some ⟨g7, 0, none⟩)⟩), (9, ⟨.lit, .pointer (some ⟨g9, 0, none⟩)⟩), (10, ⟨.lit, r⟩), (13, ⟨.lit, .pointer (some ⟨g13, 0, none⟩)⟩)]) ⟨rfl, rfl, rfl, rfl, rfl, rfl, trivial⟩
  clear h1 h2 h3 u2 u3 u5 u6 hd1
  have hG3 : dG w3 := dK_ok.st w2 w3 hG2 hb3
  have hw3 : Below w.heap.size w w3 := hb2.trans (hb3.mono hb2.size)
  have lc3 : Lives w w3 uc := hl3.from hb2.size
  have hr3 := hr2.grow hb3
  have len3 : (crashS A t).1.1.length ≤ 1100000 := Nat.le_trans (crash_len A t) hle
  generalize (crashS A t).1.1 = xc at hx3 len3
  -- Repair
  refine region_then ?_
  have ld3 : (Go.loadVar 29 ⟨g13, 0, none⟩).run Tryd.prog w3 = .ok (.agg #[uc, .int .i64 zc]) w3 := loadAgg lyL rfl rfl hc3
  refine hd2.step (d := 54) rfl rfl rfl (load_run rfl (hd2.val (s := 13) rfl) ld3) fun c1 h1 => ?_
  refine logStage (c := 55) (m := 53) (e0 := 56) (e1 := 57) (b := 15) (xs := (repairS (xc, zc, ())).1.1) hG3 h1 rfl rfl rfl rfl Tryd.call9 ?_ rfl rfl rfl rfl rfl rfl rfl rfl rfl rfl (by decide) (fun _ _ _ _ _ _ => by refine ⟨_, rfl, ?_, ?_, ?_, ?_⟩; exact trivial; exact rfl; exact rfl; exact ⟨rfl, rfl, rfl, rfl, rfl, rfl, rfl, trivial⟩) rfl rfl fun c3 w4 g15 up zp hb4 hl4 hx4 hc4 h3 => ?_
  · have e1 : c1.tmps.getD 54 undef = .agg #[uc, .int .i64 zc] := h1.val (s := 54) rfl
    show Calls _ _ (List.toArray [c1.tmps.getD 54 undef]) _ _
    rw [e1]
    exact repair_new w3 ((xc, zc, ()), ()) [.agg #[uc, .int .i64 zc]] ⟨_, [], rfl, (RepD.agg (t := jl) rfl).2 ⟨[uc, .int .i64 zc], rfl, [uc], [.int .i64 zc], rfl, ⟨uc, rfl, hx3⟩, [.int .i64 zc], [], rfl, rfl, rfl⟩, rfl⟩ len3 hG3
  refine ⟨rfl, ?_⟩
  have hd3 := h3.sub (F' := [(3, ⟨.lit, .pointer (some ⟨g3, 0, none⟩)⟩), (5, ⟨.bool, true⟩), (7, ⟨.lit, .pointer (some ⟨g7, 0, none⟩)⟩), (9, ⟨.lit, .pointer (some ⟨g9, 0, none⟩)⟩), (10, ⟨.lit, r⟩), (13, ⟨.lit, .pointer (some ⟨g13, 0, none⟩)⟩), (15, ⟨.lit, .pointer (some ⟨g15, 0, none⟩)⟩)]) ⟨rfl, rfl, rfl, rfl, rfl, rfl, rfl, trivial⟩
  clear h1 h3 hd2 ld3
  have hG4 : dG w4 := dK_ok.st w3 w4 hG3 hb4
  have hw4 : Below w.heap.size w w4 := hw3.trans (hb4.mono hw3.size)
  have lc4 : Lives w w4 uc := lc3.grow hb4
  have lp4 : Lives w w4 up := hl4.from hw3.size
  have hr4 := hr3.grow hb4
  have kc4 := hc3.grow hb4
  -- Append
  refine region_then ?_
  obtain ⟨u1, u2, u3⟩ := o7.load hw4 lyL rfl
  refine hd3.step (d := 59) rfl rfl rfl (load_run rfl (hd3.val (s := 7) rfl) u2) fun d1 h1 => ?_
  refine h1.eng (K := dK) (l := [_, _]) dK_ok hG4 rfl rfl ?_ fun β2 d2 w5 hb5 hs5 => ?_
  · exact Nat.one_pos
  have h2 := Hd.of hs5 rfl (F' := [(59, ⟨.lit, u1⟩), (61, ⟨bs, [120]⟩), (3, ⟨.lit, .pointer (some ⟨g3, 0, none⟩)⟩), (5, ⟨.bool, true⟩), (7, ⟨.lit, .pointer (some ⟨g7, 0, none⟩)⟩), (9, ⟨.lit, .pointer (some ⟨g9, 0, none⟩)⟩), (10, ⟨.lit, r⟩), (13, ⟨.lit, .pointer (some ⟨g13, 0, none⟩)⟩), (15, ⟨.lit, .pointer (some ⟨g15, 0, none⟩)⟩)]) ⟨rfl, rfl, rfl, rfl, rfl, rfl, rfl, rfl, rfl, trivial⟩ rfl
  have hG5 : dG w5 := dK_ok.st w4 w5 hG4 hb5
  have hw5 : Below w.heap.size w w5 := hw4.trans (hb5.mono hw4.size)
  have u3' : RepD w5 noO jl A u1 := u3.keep (.of_below hb5 fun _ _ h => h)
  clear hs5 h1 u2 u3
  refine logStage (c := 62) (m := 58) (e0 := 63) (e1 := 64) (b := 17) (xs := (appendS A [120]).1.1) hG5 h2 rfl rfl rfl rfl Tryd.call10 ?_ rfl rfl rfl rfl rfl rfl rfl rfl rfl rfl (by decide) (fun _ _ _ _ _ _ => by refine ⟨_, rfl, ?_, ?_, ?_, ?_⟩; exact trivial; exact rfl; exact rfl; exact ⟨rfl, rfl, rfl, rfl, rfl, rfl, rfl, rfl, rfl, trivial⟩) rfl rfl fun d3 w6 g17 ud zd hb6 hl6 hx6 hc6 h3 => ?_
  · have e1 : d2.tmps.getD 59 undef = u1 := h2.val (s := 59) rfl
    have e2 := h2.fr 61
    show Calls _ _ (List.toArray [d2.tmps.getD 59 undef, d2.tmps.getD 61 undef]) _ _
    rw [e1]
    exact append_new w5 (A, [120], ()) [u1, d2.tmps.getD 61 undef] ⟨u1, [_], rfl, u3', _, [], rfl, e2, rfl⟩ ⟨hle, by show 1 ≤ 1100000; decide⟩ hG5
  refine ⟨rfl, ?_⟩
  have hd4 := h3.sub (F' := [(3, ⟨.lit, .pointer (some ⟨g3, 0, none⟩)⟩), (5, ⟨.bool, true⟩), (7, ⟨.lit, .pointer (some ⟨g7, 0, none⟩)⟩), (9, ⟨.lit, .pointer (some ⟨g9, 0, none⟩)⟩), (10, ⟨.lit, r⟩), (13, ⟨.lit, .pointer (some ⟨g13, 0, none⟩)⟩), (15, ⟨.lit, .pointer (some ⟨g15, 0, none⟩)⟩), (17, ⟨.lit, .pointer (some ⟨g17, 0, none⟩)⟩)]) ⟨rfl, rfl, rfl, rfl, rfl, rfl, rfl, rfl, trivial⟩
  clear h2 h3 hd3 u3'
  have hG6 : dG w6 := dK_ok.st w5 w6 hG5 hb6
  have hw6 : Below w.heap.size w w6 := hw5.trans (hb6.mono hw5.size)
  have lc6 : Lives w w6 uc := (lc4.grow hb5).grow hb6
  have lp6 : Lives w w6 up := (lp4.grow hb5).grow hb6
  have ld6 : Lives w w6 ud := hl6.from hw5.size
  have hr6 := (hr4.grow hb5).grow hb6
  have kc6 := (kc4.grow hb5).grow hb6
  have kp6 := (hc4.grow hb5).grow hb6
  -- Sync
  refine region_then ?_
  obtain ⟨t1, t2, t3⟩ := o7.load hw6 lyL rfl
  refine hd4.step (d := 66) rfl rfl rfl (load_run rfl (hd4.val (s := 7) rfl) t2) fun f1 h1 => ?_
  refine logStage (c := 67) (m := 65) (e0 := 68) (e1 := 69) (b := 19) (xs := (syncS A).1.1) hG6 h1 rfl rfl rfl rfl Tryd.call11 ?_ rfl rfl rfl rfl rfl rfl rfl rfl rfl rfl (by decide) (fun _ _ _ _ _ _ => by refine ⟨_, rfl, ?_, ?_, ?_, ?_⟩; exact trivial; exact rfl; exact rfl; exact ⟨rfl, rfl, rfl, rfl, rfl, rfl, rfl, rfl, rfl, trivial⟩) rfl rfl fun f3 w7 g19 us zs hb7 hl7 hx7 hc7 h3 => ?_
  · have e1 : f1.tmps.getD 66 undef = t1 := h1.val (s := 66) rfl
    show Calls _ _ (List.toArray [f1.tmps.getD 66 undef]) _ _
    rw [e1]
    exact sync_new w6 (A, ()) [t1] ⟨t1, [], rfl, t3, rfl⟩ hle hG6
  refine ⟨rfl, ?_⟩
  have hd5 := h3.sub (F' := [(3, ⟨.lit, .pointer (some ⟨g3, 0, none⟩)⟩), (5, ⟨.bool, true⟩), (7, ⟨.lit, .pointer (some ⟨g7, 0, none⟩)⟩), (9, ⟨.lit, .pointer (some ⟨g9, 0, none⟩)⟩), (10, ⟨.lit, r⟩), (13, ⟨.lit, .pointer (some ⟨g13, 0, none⟩)⟩), (15, ⟨.lit, .pointer (some ⟨g15, 0, none⟩)⟩), (17, ⟨.lit, .pointer (some ⟨g17, 0, none⟩)⟩), (19, ⟨.lit, .pointer (some ⟨g19, 0, none⟩)⟩)]) ⟨rfl, rfl, rfl, rfl, rfl, rfl, rfl, rfl, rfl, trivial⟩
  clear h1 h3 hd4 t2 t3
  have hG7 : dG w7 := dK_ok.st w6 w7 hG6 hb7
  have hw7 : Below w.heap.size w w7 := hw6.trans (hb7.mono hw6.size)
  have lc7 := lc6.grow hb7
  have lp7 := lp6.grow hb7
  have ld7 := ld6.grow hb7
  have ls7 : Lives w w7 us := hl7.from hw6.size
  have hr7 := hr6.grow hb7
  have kc7 := kc6.grow hb7
  have kp7 := kp6.grow hb7
  have kd7 := hc6.grow hb7
  clear hb3 hb4 hb5 hb6 hb7 hx3 hx4 hx6 hx7 lc3 lc4 lc6 lp4 lp6 ld6 hr2 hr3 hr4 hr6 kc4 kc6 kp6 hl3 hl4 hl6 hl7 hc3 hc4 hc6
  -- all
  refine region_then ?_
  have lyB : Lay Tryd.prog bs (.inl 27) := dK_ok.t.lay _ _ rfl
  refine hd5.step (d := 70) rfl rfl rfl (field_run rfl (hd5.val (s := 13) rfl) Tryd.underlying29 rfl lyB (by decide)) fun f1 h1 => ?_
  refine h1.step (d := 71) rfl rfl rfl (load1_run rfl (h1.val (s := 70) rfl) lyB rfl (cell0 kc7)) fun f2 h2 => ?_
  refine h2.step (d := 72) rfl rfl rfl (field_run rfl (h2.val (s := 15) rfl) Tryd.underlying29 rfl lyB (by decide)) fun f3 h3 => ?_
  refine h3.step (d := 73) rfl rfl rfl (load1_run rfl (h3.val (s := 72) rfl) lyB rfl (cell0 kp7)) fun f4 h4 => ?_
  refine h4.step (d := 74) rfl rfl rfl (field_run rfl (h4.val (s := 17) rfl) Tryd.underlying29 rfl lyB (by decide)) fun f5 h5 => ?_
  refine h5.step (d := 75) rfl rfl rfl (load1_run rfl (h5.val (s := 74) rfl) lyB rfl (cell0 kd7)) fun f6 h6 => ?_
  refine h6.step (d := 76) rfl rfl rfl (field_run rfl (h6.val (s := 19) rfl) Tryd.underlying29 rfl lyB (by decide)) fun f7 h7 => ?_
  refine h7.step (d := 77) rfl rfl rfl (load1_run rfl (h7.val (s := 76) rfl) lyB rfl (cell0 hc7)) fun f8 h8 => ?_
  obtain ⟨A1, m1, c1, rfl, _⟩ := lc7.form
  obtain ⟨A2, m2, c2, rfl, _⟩ := lp7.form
  obtain ⟨A3, m3, c3, rfl, _⟩ := ld7.form
  obtain ⟨A4, m4, c4, rfl, _⟩ := ls7.form
  refine h8.stepW (d := 78) rfl rfl rfl rfl (four_run rfl (h8.val (s := 71) rfl) (h8.val (s := 73) rfl) (h8.val (s := 75) rfl) (h8.val (s := 77) rfl)) fun k1 h9 => ?_
  refine h9.step (d := 21) rfl rfl rfl (assign_run rfl (h9.val (s := 78) rfl)) fun k2 h10 => ?_
  refine ⟨rfl, ?_⟩
  have hd6 := h10.sub (F' := [(3, ⟨.lit, .pointer (some ⟨g3, 0, none⟩)⟩), (5, ⟨.bool, true⟩), (7, ⟨.lit, .pointer (some ⟨g7, 0, none⟩)⟩), (9, ⟨.lit, .pointer (some ⟨g9, 0, none⟩)⟩), (10, ⟨.lit, r⟩), (21, ⟨.lit, .slice (some ⟨w7.heap.size, 0, none⟩) 4 4⟩)]) ⟨rfl, rfl, rfl, rfl, rfl, rfl, trivial⟩
  clear h1 h2 h3 h4 h5 h6 h7 h8 h9 h10 hd5 kc7 kp7 kd7 hc7
  have hrow8 : (w7.alloc (.cells #[.slice A1 m1 c1, .slice A2 m2 c2, .slice A3 m3 c3, .slice A4 m4 c4] 27)).ownsRow w.heap.size 27 1 (.slice (some ⟨w7.heap.size, 0, none⟩) 4 4) 4 [.slice A1 m1 c1, .slice A2 m2 c2, .slice A3 m3 c3, .slice A4 m4 c4] :=
    ⟨rfl, .inr ⟨w7.heap.size, 4, _, rfl, hw7.size, heap_alloc_new w7 _, by omega, by decide, rfl, rfl⟩⟩
  have hb8 : Below w7.heap.size w7 (w7.alloc (.cells #[.slice A1 m1 c1, .slice A2 m2 c2, .slice A3 m3 c3, .slice A4 m4 c4] 27)) := below_alloc w7 _
  generalize w7.alloc (.cells #[.slice A1 m1 c1, .slice A2 m2 c2, .slice A3 m3 c3, .slice A4 m4 c4] 27) = w8 at hrow8 hb8 hd6
  have hl4 : ∀ h ∈ [Value.slice A1 m1 c1, .slice A2 m2 c2, .slice A3 m3 c3, .slice A4 m4 c4], Lives w w7 h := by
    intro h hh
    simp only [List.mem_cons, List.not_mem_nil, or_false] at hh
    rcases hh with rfl | rfl | rfl | rfl
    · exact lc7
    · exact lp7
    · exact ld7
    · exact ls7
  -- the rows too
  refine region_then ?_
  refine hd6.step (d := 79) rfl rfl rfl (move_run rfl (hd6.val (s := 21) rfl)) fun f1 h1 => ?_
  refine h1.step (d := 80) rfl rfl rfl (move_run rfl (h1.val (s := 10) rfl)) fun f2 h2 => ?_
  obtain ⟨v9, w9, n9, hs9, ap1, ap2, ap3, ap4, ap5, ap6⟩ := app_run (w1 := w) (wz := w7) hrow8 (by decide) hl4 (by decide) hr7 hb8 (Nat.le_trans hw7.size hb8.size) 22
  refine h2.stepW (d := 81) rfl rfl rfl rfl (appb_run rfl (h2.val (s := 79) rfl) (h2.val (s := 80) rfl) ap1) fun f3 h3 => ?_
  refine h3.step (d := 21) rfl rfl rfl (assign_run rfl (h3.val (s := 81) rfl)) fun f4 h4 => ?_
  refine ⟨rfl, ?_⟩
  have hd7 := h4.sub (F' := [(3, ⟨.lit, .pointer (some ⟨g3, 0, none⟩)⟩), (5, ⟨.bool, true⟩), (7, ⟨.lit, .pointer (some ⟨g7, 0, none⟩)⟩), (9, ⟨.lit, .pointer (some ⟨g9, 0, none⟩)⟩), (21, ⟨.lit, v9⟩)]) ⟨rfl, rfl, rfl, rfl, rfl, trivial⟩
  have hb9 : Below w7.heap.size w7 w9 := ⟨ap2.os.trans hb8.os, ap2.tape.trans hb8.tape, ap2.output.trans hb8.output, Nat.le_trans hb8.size ap2.size, fun g hg => (ap2.block g (Nat.lt_of_lt_of_le hg hb8.size) fun e => by
    have e : some g = some w7.heap.size := e
    cases e
    omega).trans (hb8.block g hg)⟩
  have hw9 : Below w.heap.size w w9 := hw7.trans (hb9.mono hw7.size)
  have all9 : AllR w w9 27 v9 n9 hs9 := ⟨ap4, ap5, fun h hh => (ap6 h hh).grow hb9⟩
  clear h1 h2 h3 h4 hd6 hrow8 hb8 hl4 ap1 ap2 ap4 ap5 ap6 hb9 lc7 lp7 ld7 ls7 hr7 hw3 hw4 hw5 hw6
  -- the writing
  refine wpIn_seq (Go.wpIn_mono (Q := fun e a' w' => e = .normal ∧ Hd 109 [(3, ⟨.lit, .pointer (some ⟨g3, 0, none⟩)⟩), (5, ⟨.bool, true⟩), (7, ⟨.lit, .pointer (some ⟨g7, 0, none⟩)⟩), (9, ⟨.lit, .pointer (some ⟨g9, 0, none⟩)⟩), (21, ⟨.lit, v9⟩)] a' w' ∧ Below w.heap.size w w') ?_ fun e a' w' ⟨he, hd8, hw8'⟩ => ?_)
  · refine region_then ?_
    have hG9 : dG w9 := dK_ok.st w w9 hGw hw9
    refine hd7.eng (K := dK) (l := [_]) (r := []) dK_ok hG9 rfl rfl ?_ fun β1 a1 w10 hb10 hs1 => ?_
    · trivial
    refine ⟨rfl, ?_⟩
    have h0 := Hd.of hs1 rfl (F' := [(3, ⟨.lit, .pointer (some ⟨g3, 0, none⟩)⟩), (5, ⟨.bool, true⟩), (7, ⟨.lit, .pointer (some ⟨g7, 0, none⟩)⟩), (9, ⟨.lit, .pointer (some ⟨g9, 0, none⟩)⟩), (21, ⟨.lit, v9⟩), (22, ⟨i64, ((0 : Nat) : Int)⟩)]) ⟨rfl, rfl, rfl, rfl, rfl, rfl, trivial⟩ rfl
    refine wpIn_block (wpIn_family (fun (i : Nat) a w' => i ≤ n9 ∧ Hd 109 [(3, ⟨.lit, .pointer (some ⟨g3, 0, none⟩)⟩), (5, ⟨.bool, true⟩), (7, ⟨.lit, .pointer (some ⟨g7, 0, none⟩)⟩), (9, ⟨.lit, .pointer (some ⟨g9, 0, none⟩)⟩), (21, ⟨.lit, v9⟩), (22, ⟨i64, (i : Int)⟩)] a w' ∧ Below w.heap.size w w' ∧ AllR w w' 27 v9 n9 hs9) (fun i => n9 - i) 0 ⟨Nat.zero_le _, h0, hw9.trans (hb10.mono hw9.size), all9.grow hb10⟩ ?_)
    clear hd7 h0 hs1 hb10 all9 hw9 hG9
    rintro i a2 w2 ⟨hi, h2, hb2, hA2⟩
    have hG2 : dG w2 := dK_ok.st w w2 hGw hb2
    obtain ⟨gA, capA, hv9, hgA, hget⟩ := hA2.get
    refine wpIn_seq (region_then ?_)
    refine h2.eng (K := dK) (l := [_, _]) dK_ok hG2 rfl rfl ?_ fun β3 a3 w3 hb3 hs3 => ?_
    · trivial
    have h3 := Hd.of hs3 rfl (F' := [(82, ⟨i64, (i : Int)⟩), (83, ⟨.lit, v9⟩), (3, ⟨.lit, .pointer (some ⟨g3, 0, none⟩)⟩), (5, ⟨.bool, true⟩), (7, ⟨.lit, .pointer (some ⟨g7, 0, none⟩)⟩), (9, ⟨.lit, .pointer (some ⟨g9, 0, none⟩)⟩), (21, ⟨.lit, v9⟩), (22, ⟨i64, (i : Int)⟩)]) ⟨rfl, rfl, rfl, rfl, rfl, rfl, rfl, rfl, trivial⟩ rfl
    refine h3.step (d := 84) rfl rfl rfl (len_run rfl Tryd.underlying22 ((h3.val (s := 83) rfl).trans hv9)) fun a4 h4 => ?_
    have h4 := h4.toInt
    have hb3w : Below w.heap.size w w3 := hb2.trans (hb3.mono hb2.size)
    refine h4.eng (K := dK) (l := [_]) (r := []) dK_ok (dK_ok.st w w3 hGw hb3w) rfl rfl ?_ fun β5 a5 w5 hb5 hs5 => ?_
    · trivial
    have hb5w : Below w.heap.size w w5 := hb3w.trans (hb5.mono hb3w.size)
    have hA5 : AllR w w5 27 v9 n9 hs9 := (hA2.grow hb3).grow hb5
    have h5 := Hd.of hs5 rfl (F' := [(3, ⟨.lit, .pointer (some ⟨g3, 0, none⟩)⟩), (5, ⟨.bool, true⟩), (7, ⟨.lit, .pointer (some ⟨g7, 0, none⟩)⟩), (9, ⟨.lit, .pointer (some ⟨g9, 0, none⟩)⟩), (21, ⟨.lit, v9⟩), (22, ⟨i64, (i : Int)⟩), (85, ⟨.bool, decide ((i : Int) < (n9 : Nat))⟩)]) ⟨rfl, rfl, rfl, rfl, rfl, rfl, rfl, trivial⟩ rfl
    refine ⟨rfl, ?_⟩
    have hc5 : a5.eval (.tmp 85) = .bool (decide ((i : Int) < (n9 : Nat))) := RepV.bool (h5.fr 85)
    refine wpIn_cond hc5 ?_
    clear h2 h3 h4 hs3 hs5 hA2 hb3 hb5 hb2 hb3w hG2
    by_cases hlt : i < n9
    · rw [decide_eq_true (show (i : Int) < (n9 : Nat) by omega), if_pos rfl]
      refine wpIn_skip ?_
      have h5 := h5.sub (F' := [(3, ⟨.lit, .pointer (some ⟨g3, 0, none⟩)⟩), (5, ⟨.bool, true⟩), (7, ⟨.lit, .pointer (some ⟨g7, 0, none⟩)⟩), (9, ⟨.lit, .pointer (some ⟨g9, 0, none⟩)⟩), (21, ⟨.lit, v9⟩), (22, ⟨i64, (i : Int)⟩)]) ⟨rfl, rfl, rfl, rfl, rfl, rfl, trivial⟩
      have hG5 : dG w5 := dK_ok.st w w5 hGw hb5w
      obtain ⟨Ah, mh, ch, hmh, hhs, _⟩ := hget i hlt
      have hmem : Value.slice Ah mh ch ∈ hs9 := List.mem_of_getElem? hhs
      clear hget
      refine wpIn_seq (Go.wpIn_mono (Q := fun e a' w' => e = .normal ∧ Hd 109 [(3, ⟨.lit, .pointer (some ⟨g3, 0, none⟩)⟩), (5, ⟨.bool, true⟩), (7, ⟨.lit, .pointer (some ⟨g7, 0, none⟩)⟩), (9, ⟨.lit, .pointer (some ⟨g9, 0, none⟩)⟩), (21, ⟨.lit, v9⟩), (22, ⟨i64, (i : Int)⟩)] a' w' ∧ Below w.heap.size w w' ∧ AllR w w' 27 v9 n9 hs9) ?_ fun e a' w' ⟨he, hd, hbw', hAl⟩ => ?_)
      · refine wpIn_block (Go.wpIn_mono (Q := fun e a' w' => e = .normal ∧ Hd 109 [(3, ⟨.lit, .pointer (some ⟨g3, 0, none⟩)⟩), (5, ⟨.bool, true⟩), (7, ⟨.lit, .pointer (some ⟨g7, 0, none⟩)⟩), (9, ⟨.lit, .pointer (some ⟨g9, 0, none⟩)⟩), (21, ⟨.lit, v9⟩), (22, ⟨i64, (i : Int)⟩)] a' w' ∧ Below w.heap.size w w' ∧ AllR w w' 27 v9 n9 hs9) ?_ fun e a' w' h => by obtain ⟨rfl, h⟩ := h; exact ⟨rfl, h⟩)
        refine region_then ?_
        refine h5.eng (K := dK) (l := [_]) (r := []) dK_ok hG5 rfl rfl ?_ fun β6 a6 w6 hb6 hs6 => ?_
        · trivial
        have h6 := Hd.of hs6 rfl (F' := [(3, ⟨.lit, .pointer (some ⟨g3, 0, none⟩)⟩), (5, ⟨.bool, true⟩), (7, ⟨.lit, .pointer (some ⟨g7, 0, none⟩)⟩), (9, ⟨.lit, .pointer (some ⟨g9, 0, none⟩)⟩), (21, ⟨.lit, v9⟩), (22, ⟨i64, (i : Int)⟩), (23, ⟨i64, ((0 : Nat) : Int)⟩)]) ⟨rfl, rfl, rfl, rfl, rfl, rfl, rfl, trivial⟩ rfl
        refine ⟨rfl, wpIn_block (wpIn_family (fun (k : Nat) a w' => k ≤ mh ∧ Hd 109 [(3, ⟨.lit, .pointer (some ⟨g3, 0, none⟩)⟩), (5, ⟨.bool, true⟩), (7, ⟨.lit, .pointer (some ⟨g7, 0, none⟩)⟩), (9, ⟨.lit, .pointer (some ⟨g9, 0, none⟩)⟩), (21, ⟨.lit, v9⟩), (22, ⟨i64, (i : Int)⟩), (23, ⟨i64, (k : Int)⟩)] a w' ∧ Below w.heap.size w w' ∧ AllR w w' 27 v9 n9 hs9) (fun k => mh - k) 0 ⟨Nat.zero_le _, h6, hb5w.trans (hb6.mono hb5w.size), hA5.grow hb6⟩ ?_)⟩
        clear h5 h6 hs6 hb6 hA5 hb5w hG5 hc5
        rintro k a7 w7 ⟨hk, h7, hb7, hA7⟩
        have hG7' : dG w7 := dK_ok.st w w7 hGw hb7
        obtain ⟨gB, capB, hvB, _, hgetB⟩ := hA7.get
        rw [hv9] at hvB
        cases hvB
        obtain ⟨A', m', c', _, hh', hcell⟩ := hgetB i hlt
        rw [hhs] at hh'
        cases hh'
        clear hgetB
        have lyU : Lay Tryd.prog u8 (.inl 5) := dK_ok.t.lay _ _ rfl
        refine wpIn_seq (region_then ?_)
        refine h7.eng (K := dK) (l := [_, _, _]) dK_ok hG7' rfl rfl ?_ fun β1 a1 w1 hb1 hs1 => ?_
        · trivial
        have h1 := Hd.of hs1 rfl (F' := [(88, ⟨i64, (k : Int)⟩), (89, ⟨.lit, v9⟩), (90, ⟨i64, (i : Int)⟩), (3, ⟨.lit, .pointer (some ⟨g3, 0, none⟩)⟩), (5, ⟨.bool, true⟩), (7, ⟨.lit, .pointer (some ⟨g7, 0, none⟩)⟩), (9, ⟨.lit, .pointer (some ⟨g9, 0, none⟩)⟩), (21, ⟨.lit, v9⟩), (22, ⟨i64, (i : Int)⟩), (23, ⟨i64, (k : Int)⟩)]) ⟨rfl, rfl, rfl, rfl, rfl, rfl, rfl, rfl, rfl, rfl, trivial⟩ rfl
        have hb1w : Below w.heap.size w w1 := hb7.trans (hb1.mono hb7.size)
        have hA1 := hA7.grow hb1
        have hcell1 : w1.cell? ⟨gA, i, none⟩ = some (.slice Ah mh ch) := by
          have := hb1.block gA (by
            unfold World.cell? at hcell
            cases ho : w7.heap[gA]? with
            | none => simp [ho] at hcell
            | some o => exact (Array.getElem?_eq_some_iff.1 ho).1)
          unfold World.cell? at hcell ⊢
          rw [this]
          exact hcell
        clear hs1 hcell h7 hb1 hb7 hA7 hG7'
        refine h1.step (d := 91) rfl rfl rfl (index_run (i := (i : Int)) rfl Tryd.underlying22 lyB rfl ((h1.val (s := 89) rfl).trans hv9) (h1.int (s := 90) rfl) (by omega) (by omega)) fun a2 h2 => ?_
        refine h2.step (d := 92) rfl rfl rfl (load1_run rfl (h2.val (s := 91) rfl) lyB rfl (by rw [Int.toNat_natCast]; exact hcell1)) fun a3 h3 => ?_
        refine h3.step (d := 93) rfl rfl rfl (len_run rfl Tryd.underlying27 (h3.val (s := 92) rfl)) fun a4 h4 => ?_
        have h4 := h4.toInt
        refine h4.eng (K := dK) (l := [_]) (r := []) dK_ok (dK_ok.st w w1 hGw hb1w) rfl rfl ?_ fun β5 a5 w5 hb5 hs5 => ?_
        · trivial
        have hb5w : Below w.heap.size w w5 := hb1w.trans (hb5.mono hb1w.size)
        have hA5 := hA1.grow hb5
        have h5 := Hd.of hs5 rfl (F' := [(3, ⟨.lit, .pointer (some ⟨g3, 0, none⟩)⟩), (5, ⟨.bool, true⟩), (7, ⟨.lit, .pointer (some ⟨g7, 0, none⟩)⟩), (9, ⟨.lit, .pointer (some ⟨g9, 0, none⟩)⟩), (21, ⟨.lit, v9⟩), (22, ⟨i64, (i : Int)⟩), (23, ⟨i64, (k : Int)⟩), (94, ⟨.bool, decide ((k : Int) < (mh : Nat))⟩)]) ⟨rfl, rfl, rfl, rfl, rfl, rfl, rfl, rfl, trivial⟩ rfl
        refine ⟨rfl, ?_⟩
        have hc5 : a5.eval (.tmp 94) = .bool (decide ((k : Int) < (mh : Nat))) := RepV.bool (h5.fr 94)
        refine wpIn_cond hc5 ?_
        clear h1 h2 h3 h4 hs5 hA1 hb1w hcell1 hb5
        by_cases hlk : k < mh
        · rw [decide_eq_true (show (k : Int) < (mh : Nat) by omega), if_pos rfl]
          refine wpIn_skip ?_
          have h5 := h5.sub (F' := [(3, ⟨.lit, .pointer (some ⟨g3, 0, none⟩)⟩), (5, ⟨.bool, true⟩), (7, ⟨.lit, .pointer (some ⟨g7, 0, none⟩)⟩), (9, ⟨.lit, .pointer (some ⟨g9, 0, none⟩)⟩), (21, ⟨.lit, v9⟩), (22, ⟨i64, (i : Int)⟩), (23, ⟨i64, (k : Int)⟩)]) ⟨rfl, rfl, rfl, rfl, rfl, rfl, rfl, trivial⟩
          have hG5 : dG w5 := dK_ok.st w w5 hGw hb5w
          refine wpIn_seq (Go.wpIn_mono (Q := fun e a' w' => e = .normal ∧ Hd 109 [(3, ⟨.lit, .pointer (some ⟨g3, 0, none⟩)⟩), (5, ⟨.bool, true⟩), (7, ⟨.lit, .pointer (some ⟨g7, 0, none⟩)⟩), (9, ⟨.lit, .pointer (some ⟨g9, 0, none⟩)⟩), (21, ⟨.lit, v9⟩), (22, ⟨i64, (i : Int)⟩), (23, ⟨i64, (k : Int)⟩)] a' w' ∧ Below w.heap.size w w' ∧ AllR w w' 27 v9 n9 hs9) ?_ fun e a' w' ⟨he, hd, hbw', hAl⟩ => ?_)
          · refine wpIn_block (Go.wpIn_mono (Q := fun e a' w' => e = .normal ∧ Hd 109 [(3, ⟨.lit, .pointer (some ⟨g3, 0, none⟩)⟩), (5, ⟨.bool, true⟩), (7, ⟨.lit, .pointer (some ⟨g7, 0, none⟩)⟩), (9, ⟨.lit, .pointer (some ⟨g9, 0, none⟩)⟩), (21, ⟨.lit, v9⟩), (22, ⟨i64, (i : Int)⟩), (23, ⟨i64, (k : Int)⟩)] a' w' ∧ Below w.heap.size w w' ∧ AllR w w' 27 v9 n9 hs9) ?_ fun e a' w' h => by obtain ⟨rfl, h⟩ := h; exact ⟨rfl, h⟩)
            refine wpIn_region_list ?_
            refine h5.eng (K := dK) (l := [_, _]) dK_ok hG5 rfl rfl ?_ fun β6 a6 w6 hb6 hs6 => ?_
            · trivial
            have h6 := Hd.of hs6 rfl (F' := [(97, ⟨.lit, v9⟩), (98, ⟨i64, (i : Int)⟩), (3, ⟨.lit, .pointer (some ⟨g3, 0, none⟩)⟩), (5, ⟨.bool, true⟩), (7, ⟨.lit, .pointer (some ⟨g7, 0, none⟩)⟩), (9, ⟨.lit, .pointer (some ⟨g9, 0, none⟩)⟩), (21, ⟨.lit, v9⟩), (22, ⟨i64, (i : Int)⟩), (23, ⟨i64, (k : Int)⟩)]) ⟨rfl, rfl, rfl, rfl, rfl, rfl, rfl, rfl, rfl, trivial⟩ rfl
            have hb6w : Below w.heap.size w w6 := hb5w.trans (hb6.mono hb5w.size)
            have hA6 := hA5.grow hb6
            clear hs6 hb6 h5 hA5 hb5w hG5 hc5
            obtain ⟨gB, capB, hvB, _, hgetB⟩ := hA6.get
            rw [hv9] at hvB
            cases hvB
            obtain ⟨A', m', c', _, hh', hcell⟩ := hgetB i hlt
            rw [hhs] at hh'
            cases hh'
            clear hgetB
            refine h6.step (d := 99) rfl rfl rfl (index_run (i := (i : Int)) rfl Tryd.underlying22 lyB rfl ((h6.val (s := 97) rfl).trans hv9) (h6.int (s := 98) rfl) (by omega) (by omega)) fun a2 h2 => ?_
            refine h2.step (d := 100) rfl rfl rfl (load1_run rfl (h2.val (s := 99) rfl) lyB rfl (by rw [Int.toNat_natCast]; exact hcell)) fun a3 h3 => ?_
            refine h3.step (d := 101) rfl rfl rfl (move_run rfl (h3.int (s := 23) rfl)) fun a4 h4 => ?_
            obtain ⟨g, cur, te', rfl, hge, hg, hks, hA7⟩ := hA6.store hmem hlk
            refine h4.step (d := 102) rfl rfl rfl (index_run (i := (k : Int)) rfl Tryd.underlying27 lyU rfl (h4.val (s := 100) rfl) (h4.val (s := 101) rfl) (by omega) (by omega)) fun a5 h5 => ?_
            have hst : (Instr.storeAt 5 (.pointer (some ⟨g, k, none⟩)) (.int .u8 201)).run Tryd.prog w6 = .ok () (w6.setRow g (cur.toList.take k ++ [Value.int .u8 201] ++ cur.toList.drop (k + 1)).toArray) := storeOne lyU rfl hg (by omega) rfl rfl
            refine h5.stepS rfl rfl rfl (w' := w6.setRow g (cur.toList.take k ++ [Value.int .u8 201] ++ cur.toList.drop (k + 1)).toArray) ?_ fun h7 => ?_
            · have hp : a5.tmps.getD 102 undef = .pointer (some ⟨g, k, none⟩) := (h5.val (s := 102) rfl).trans (by rw [Int.toNat_natCast])
              unfold execOp
              show Sem.run _ (do Instr.storeAt 5 (a5.tmps.getD 102 undef) (.int .u8 201); _) w6 = _
              rw [hp]
              simp [hst]
            · refine ⟨rfl, h7.sub ⟨rfl, rfl, rfl, rfl, rfl, rfl, rfl, trivial⟩, ?_, hA7⟩
              exact ⟨hb6w.os, hb6w.tape, hb6w.output, Nat.le_trans hb6w.size (by simp), fun q hq => (setRow_other w6 g q _ (fun e => by omega)).trans (hb6w.block q hq)⟩
          · subst he
            refine wpIn_region_list ?_
            refine hd.eng (K := dK) (l := [_, _, _]) (r := []) dK_ok (dK_ok.st w w' hGw hbw') rfl rfl ?_ fun β6 a6 w6 hb6 hs6 => ?_
            · exact inR_succ (by unfold maxLen at hmh; omega)
            have h6 := Hd.of hs6 rfl (F' := [(3, ⟨.lit, .pointer (some ⟨g3, 0, none⟩)⟩), (5, ⟨.bool, true⟩), (7, ⟨.lit, .pointer (some ⟨g7, 0, none⟩)⟩), (9, ⟨.lit, .pointer (some ⟨g9, 0, none⟩)⟩), (21, ⟨.lit, v9⟩), (22, ⟨i64, (i : Int)⟩), (23, ⟨i64, ((k + 1 : Nat) : Int)⟩)]) ⟨rfl, rfl, rfl, rfl, rfl, rfl, vSucc _, trivial⟩ rfl
            exact ⟨k + 1, by omega, by omega, h6, hbw'.trans (hb6.mono hbw'.size), hAl.grow hb6⟩
        · rw [decide_eq_false (show ¬ (k : Int) < (mh : Nat) by omega)]
          refine wpIn_exit ?_
          exact ⟨rfl, h5.sub ⟨rfl, rfl, rfl, rfl, rfl, rfl, trivial⟩, hb5w, hA5⟩
      · subst he
        refine wpIn_region_list ?_
        refine hd.eng (K := dK) (l := [_, _, _]) (r := []) dK_ok (dK_ok.st w w' hGw hbw') rfl rfl ?_ fun β6 a6 w6 hb6 hs6 => ?_
        · exact inR_succ (by omega)
        have h6 := Hd.of hs6 rfl (F' := [(3, ⟨.lit, .pointer (some ⟨g3, 0, none⟩)⟩), (5, ⟨.bool, true⟩), (7, ⟨.lit, .pointer (some ⟨g7, 0, none⟩)⟩), (9, ⟨.lit, .pointer (some ⟨g9, 0, none⟩)⟩), (21, ⟨.lit, v9⟩), (22, ⟨i64, ((i + 1 : Nat) : Int)⟩)]) ⟨rfl, rfl, rfl, rfl, rfl, vSucc _, trivial⟩ rfl
        exact ⟨i + 1, by omega, by omega, h6, hbw'.trans (hb6.mono hbw'.size), hAl.grow hb6⟩
    · rw [decide_eq_false (show ¬ (i : Int) < (n9 : Nat) by omega)]
      refine wpIn_exit ?_
      exact ⟨rfl, h5.sub ⟨rfl, rfl, rfl, rfl, rfl, trivial⟩, hb5w⟩
  · subst he
    refine region_then ?_
    obtain ⟨t1, t2, t3⟩ := o7.load hw8' lyL rfl
    obtain ⟨t4, t5, t6⟩ := o9.load hw8' lyL rfl
    refine hd8.step (d := 103) rfl rfl rfl (load_run rfl (hd8.val (s := 7) rfl) t2) fun a1 h1 => ?_
    refine h1.step (d := 104) rfl rfl rfl (load_run rfl (h1.val (s := 9) rfl) t5) fun a2 h2 => ?_
    have hGe : dG w' := dK_ok.st w w' hGw hw8'
    refine h2.call (d := 105) rfl rfl rfl rfl Tryd.call12 (Φ := fun v _ => v = .bool true) ?_ fun a3 y w3 hb3 hΦ h3 => ?_
    · have e1 : a2.tmps.getD 103 undef = t1 := h2.val (s := 103) rfl
      have e2 : a2.tmps.getD 104 undef = t4 := h2.val (s := 104) rfl
      show Calls _ _ (List.toArray [a2.tmps.getD 103 undef, a2.tmps.getD 104 undef]) _ _
      rw [e1, e2]
      refine (rsameLog_ok.2 w' noO (A, A, ()) [t1, t4] (fun g hg => hg.elim) ⟨t1, [t4], rfl, t3, t4, [], rfl, t6, rfl⟩ trivial hGe).mono fun e w3 ⟨v, h1, h2, h3⟩ => ⟨v, h1, h2, ?_⟩
      have h3 : RepV w3 noO (fun _ => undef) .bool (sameLog A A) v := h3 _
      rw [RepV.bool h3]
      have : sameLog A A = true := by
        unfold sameLog
        rw [eqb_iff.2 rfl]
        exact beq_self_eq_true A.2.1
      rw [this]
    subst hΦ
    have h3 := h3.toBool
    refine h3.eng (K := dK) (l := [_, _, _, _]) (r := []) dK_ok (dK_ok.st w' w3 hGe hb3) rfl rfl ?_ fun β6 a6 w6 hb6 hs6 => ?_
    · exact fun _ => rfl
    refine ⟨rfl, wpIn_ret ?_⟩
    have h6 := Hd.of hs6 rfl (F' := [(4, ⟨.bool, true⟩)]) ⟨rfl, trivial⟩ rfl
    have hbe : Below w.heap.size w w6 := (hw8'.trans (hb3.mono hw8'.size)).trans (hb6.mono (Nat.le_trans hw8'.size hb3.size))
    exact ⟨.inr rfl, h6.df, hbw.trans (hbe.mono hbw.size), RepV.bool (h6.fr 4)⟩
end Go.Proofs.YthhphphdbgkdgaaDoor
