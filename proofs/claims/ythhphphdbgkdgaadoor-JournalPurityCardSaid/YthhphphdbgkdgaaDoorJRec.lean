/-
  Package journal: what Records returns lies in new memory.
-/
import Derived.Test.YthhphphdbgkdgaaDoorJPrgC
import Derived.Test.YthhphphdbgkdgaaDoorAbsNew
namespace Go.Proofs.YthhphphdbgkdgaaDoor
open Go Go.RowKit
set_option linter.unusedSimpArgs false
set_option linter.unusedVariables false
set_option maxRecDepth 100000
/-- a row that may be written, not in the block of the rows' own slice -/
def RowL (w0 w : World) (g : Nat) (c : Value) : Prop := (∃ A cp, c = .slice A 0 cp) ∨ ∃ te, New w0 te w c ∧ blockOf c ≠ some g
theorem RowL.lives {w0 w : World} {g : Nat} {c : Value} (h : RowL w0 w g c) : Lives w0 w c := h.imp id fun ⟨te, h, _⟩ => ⟨te, h⟩
theorem RowL.keep {w0 w w' : World} {g : Nat} {c : Value} (h : RowL w0 w g c) (hs : w.heap.size ≤ w'.heap.size) (hk : ∀ q, q < w.heap.size → q ≠ g → w'.heap[q]? = w.heap[q]?) : RowL w0 w' g c := by
  rcases h with h | ⟨te, ⟨ys, h⟩, hn⟩
  · exact .inl h
  · refine .inr ⟨te, ⟨ys, h.keep ⟨hs, fun q _ hq => absurd trivial hq, fun _ _ h => h⟩ fun q hq => hk q (h.block_lt hq).2 fun e => hn (by rw [hq, e])⟩, hn⟩
structure RI (w0 : World) (g L cap : Nat) (te : TypeId) (F : Frame) (a : Act) (w : World) : Prop where
  sz : a.tmps.size = 44
  df : a.defers = []
  fr : ∀ s β, RepV w (oneO g) β (Frame.get F s).t (Frame.get F s).x (a.tmps.getD s undef)
  bel : Below w0.heap.size w0 w
  ng : w0.heap.size ≤ g
  rows : ∃ C, w.heap[g]? = some (.cells C te (0, 0)) ∧ C.size = cap ∧ ∀ i, i < L → ∃ c, C[i]? = some c ∧ RowL w0 w g c
section
variable {w0 w : World} {g L cap : Nat} {te : TypeId} {F : Frame} {a : Act}
theorem RI.glt (h : RI w0 g L cap te F a w) : g < w.heap.size := by
  obtain ⟨C, h1, _⟩ := h.rows
  exact (Array.getElem?_eq_some_iff.1 h1).1
theorem RI.ok (h : RI w0 g L cap te F a w) (hG : dG w0) : (Ownr.plain dG (oneO g)).Ok w :=
  ⟨fun q hq => ⟨by have hq : q = g := hq; subst hq; exact h.glt, Ownr.plain_noR _ _ q⟩, fun q hq => (Ownr.plain_noR _ _ q hq).elim, fun w' hk => dK_ok.st w w' (dK_ok.st w0 w hG h.bel) (hk.below (Ownr.plain_noR _ _))⟩
theorem RI.sim (h : RI w0 g L cap te F a w) (hb : bndB 0 F = true) (β : Nat → Value) : Sim w (Ownr.plain dG (oneO g)) 44 ⟨F, [], 0⟩ β a w := Sim.fresh rfl h.sz h.df (fun s => h.fr s β) hb
theorem RI.step (h : RI w0 g L cap te F a w) {σ : AS} {β : Nat → Value} {a' : Act} {w' : World} (hs : Sim w (Ownr.plain dG (oneO g)) 44 σ β a' w') (hE : σ.E = []) {F' : List (Nat × V)} (hF : Sub σ.F F') (hd : (F'.all fun q => dF q.2) = true) : RI w0 g L cap te F' a' w' := by
  have hb : Below w.heap.size w w' := hs.bel.below (Ownr.plain_noR _ _)
  obtain ⟨C, h1, h2, h3⟩ := h.rows
  refine ⟨hs.sz, hs.df, fun s β' => ?_, h.bel.trans (hb.mono h.bel.size), h.ng, C, (hb.block g h.glt).trans h1, h2, fun i hi => ?_⟩
  · have h4 := (hs.weaken hF.get).fr s
    rw [show ({ σ with F := F' } : AS).E = [] from hE, OSet.nil] at h4
    exact dF_rep (dF_all hd s) h4
  · obtain ⟨c, h5, h6⟩ := h3 i hi
    exact ⟨c, h5, h6.keep hb.size fun q hq _ => hb.block q hq⟩
theorem RI.row (h : RI w0 g L cap te F a w) {e : Exit} {k : Nat} {C : Array Value} {F' : Frame} {a' : Act} {w' : World} (hC : w.heap[g]? = some (.cells C te (0, 0))) (hr : RowQ 44 F' w g te C k e a' w') : RI w0 g L cap te F' a' w' := by
  obtain ⟨_, h1, h2, h3, h4, C', row, h5, h6, h7, h8, h9⟩ := hr
  obtain ⟨C0, g1, g2, g3⟩ := h.rows
  rw [hC] at g1
  cases g1
  have hlt : ∀ q, q < w0.heap.size → q < w.heap.size := fun q hq => Nat.lt_of_lt_of_le hq h.bel.size
  refine ⟨h2, h3, h1, ⟨h4.os.trans h.bel.os, h4.tape.trans h.bel.tape, h4.output.trans h.bel.output, Nat.le_trans h.bel.size h4.size, fun q hq => (h4.block q (hlt q hq) fun e => ?_).trans (h.bel.block q hq)⟩, h.ng, C', h5, h6.trans g2, fun i hi => ?_⟩
  · have e : q = g := e
    have := h.ng
    omega
  · by_cases hik : i = k
    · subst hik
      refine ⟨row, h8, ?_⟩
      rcases h9 with h9 | ⟨te', h9⟩
      · exact .inl h9
      · refine .inr ⟨te', h9.from h.bel.size, fun e => ?_⟩
        obtain ⟨ys, h9⟩ := h9
        have := (h9.block_lt e).1
        have := h.glt
        omega
    · obtain ⟨c, h10, h11⟩ := g3 i hi
      exact ⟨c, (h7 i hik).trans h10, h11.keep h4.size fun q hq hn => h4.block q hq hn⟩
end
/-- rows that may be written -/
def Rows (w0 w : World) (v : Value) : Prop := (∃ A c, v = .slice A 0 c) ∨ ∃ g cap te C L, v = .slice (some ⟨g, 0, none⟩) L cap ∧ L ≤ cap ∧ cap ≤ maxLen ∧ L ≤ 1100000 ∧ w.heap[g]? = some (.cells C te (0, 0)) ∧ C.size = cap ∧ w0.heap.size ≤ g ∧ ∀ i, i < L → ∃ c, C[i]? = some c ∧ Lives w0 w c
/-- what the call of Records leaves -/
def RecR (w0 : World) : Exit → Act → World → Prop := fun e a w => (e = .normal ∨ e = .ret) ∧ a.defers = [] ∧ Below w0.heap.size w0 w ∧ Rows w0 w (a.tmps.getD 2 undef)
def fRec (m : Int) (fs : List (List UInt8)) (v : Value) (k : Nat) : List (Nat × V) := [(6, ⟨i64, m⟩), (7, ⟨.lit, v⟩), (22, ⟨.slice bs, fs⟩), (23, ⟨i64, ((fs.length : Nat) : Int)⟩), (24, ⟨i64, (k : Int)⟩)]
theorem records_walk (w0 : World) (hG : dG w0) (hX : (Ownr.plain dG noO).Ok w0) (l : Lg) (p1 : l.1.length ≤ 1100000) : ∃ c, Tryd.f7.body = some c ∧ AWPR Tryd.prog w0 (Ownr.plain dG noO) 44 c ⟨[(0, ⟨jl, l⟩)], [], 0⟩ (RecR w0) := by
  refine ⟨_, rfl, ?_⟩
  have hle := recs_le l.1
  have hcnt := recs_count l.1
  have hsz := recs_len l.1
  refine AWPR.seq ?_
  (repeat (first | refine AWP.seq ?_ | refine AWP.skip ?_ | refine AWP.block ?_ | refine AWP.exit ?_)); refine AWP.region hX kJ_ok rfl ?_ ?_
  · trivial
  refine AWPR.seq ?_
  (repeat (first | refine AWP.seq ?_ | refine AWP.skip ?_ | refine AWP.block ?_ | refine AWP.exit ?_)); refine AWP.region hX kJ_ok rfl ?_ ?_
  · trivial
  refine AWP.cond rfl (fun hb => ?_) (fun hb => ?_)
  · have hb : (!validL l) = true := hb
    (repeat (first | refine AWP.seq ?_ | refine AWP.skip ?_ | refine AWP.label ?_ | refine AWP.exit ?_ | refine AWP.block ?_ | refine AWP.region hX kJ_ok rfl trivial ?_ | refine AWP.region hX kJ_ok rfl id ?_ | refine AWP.region hX kJ_ok rfl ⟨id, id⟩ ?_))
    refine AWP.ret ?_
    (repeat refine thenQ_ret ?_)
    intro β a w hs
    have h2 : a.tmps.getD 2 undef = .slice none 0 0 := hs.fr 2
    exact ⟨.inr rfl, hs.df, hs.bel.below (Ownr.plain_noR _ _), .inl ⟨none, 0, h2⟩⟩
  refine AWP.skip ?_
  refine thenQ_normal ?_
  refine AWPR.seq ?_
  (repeat (first | refine AWP.seq ?_ | refine AWP.skip ?_ | refine AWP.block ?_ | refine AWP.exit ?_)); refine AWP.region hX kJ_ok rfl ?_ ?_
  · exact p1
  obtain ⟨fs, hfs⟩ : ∃ fs, (recs l.1).1 = fs := ⟨_, rfl⟩
  obtain ⟨m, hm⟩ : ∃ m, (recs l.1).2 = m := ⟨_, rfl⟩
  have hbig : ∀ x ∈ fs, x.length ≤ 1100000 := fun x hx => by
    have := mem_flat hx
    rw [hfs] at hsz
    omega
  rw [hfs] at hcnt
  refine thenQ_normal ?_
  refine AWPR.fit (σ2 := ⟨[(5, ⟨.slice bs, fs⟩), (6, ⟨i64, (m : Int)⟩)], [], 1⟩) ⟨⟨vSs hfs, vI64 (congrArg (fun n : Nat => (n : Int)) hm), trivial⟩, trivial, rfl, rfl⟩ rfl ?_
  refine AWPR.seq ?_
  (repeat (first | refine AWP.seq ?_ | refine AWP.skip ?_ | refine AWP.block ?_ | refine AWP.exit ?_)); refine AWP.region hX kJ_ok rfl ?_ ?_
  · exact ⟨by show (0 : Int) ≤ (fs.length : Nat); omega, Int.le_refl _, by show ((fs.length : Nat) : Int) ≤ 1000000000; omega⟩
  refine thenQ_normal ?_
  refine AWPR.fit (σ2 := ⟨[(5, ⟨.slice bs, fs⟩), (6, ⟨i64, (m : Int)⟩), (7, ⟨.obuf bs, (1 : Nat)⟩)], [(1, some (.buf 27 bs (List.replicate fs.length [])))], 2⟩) ⟨⟨rfl, rfl, rfl, trivial⟩, ⟨bufEq (by simp [zeroX]), trivial⟩, rfl, rfl⟩ rfl ?_
  intro β a w hs
  have hv : a.tmps.getD 7 undef = β 1 := hs.fr 7
  obtain ⟨cs, hL, hrow, _⟩ := hs.own 1 _ rfl
  have hN : w0.heap.size ≤ w.heap.size := hs.bel.size
  rcases hrow.2 with ⟨hv7, hz⟩ | ⟨g, cap, cur, hv7, _, hg, hcap, hmax, hcs, htake⟩
  · -- no rows
    have hz : fs = [] := by
      have : (List.replicate fs.length ([] : List UInt8)).length = 0 := hz
      rw [List.length_replicate] at this
      exact List.eq_nil_of_length_eq_zero this
    subst hz
    refine (AWPR.seq ?_ : AWPR _ _ _ _ _ _ _) β a w hs
    (repeat (first | refine AWP.seq ?_ | refine AWP.skip ?_ | refine AWP.block ?_ | refine AWP.exit ?_)); refine AWP.region hX kJ_ok rfl ?_ ?_
    · trivial
    (repeat (first | refine AWP.seq ?_ | refine AWP.skip ?_ | refine AWP.label ?_ | refine AWP.exit ?_ | refine AWP.block ?_ | refine AWP.region hX kJ_ok rfl trivial ?_ | refine AWP.region hX kJ_ok rfl id ?_ | refine AWP.region hX kJ_ok rfl ⟨id, id⟩ ?_))
    refine AWP.loop (ι := Unit) (fun _ => ⟨[(7, ⟨.obuf bs, (1 : Nat)⟩), (23, ⟨i64, (0 : Int)⟩), (24, ⟨i64, (0 : Int)⟩), (6, ⟨i64, (m : Int)⟩)], [(1, some (.buf 27 bs []))], 2⟩) (fun _ => True) (fun _ => 0) () trivial ⟨⟨rfl, rfl, rfl, rfl, trivial⟩, ⟨rfl, trivial⟩, rfl, rfl⟩ ?_
    intro _ _
    (repeat (first | refine AWP.seq ?_ | refine AWP.skip ?_ | refine AWP.block ?_ | refine AWP.exit ?_)); refine AWP.region hX kJ_ok rfl ?_ ?_
    · trivial
    refine AWP.seq ?_
    refine AWP.cond rfl (fun hb => ?_) (fun hb => ?_)
    · exact absurd hb (by decide)
    refine AWP.exit ?_
    refine AWPR.seq ?_
    (repeat (first | refine AWP.seq ?_ | refine AWP.skip ?_ | refine AWP.block ?_ | refine AWP.exit ?_)); refine AWP.region hX kJ_ok rfl ?_ ?_
    · trivial
    refine thenQ_normal ?_
    refine AWPR.of ?_
    refine AWP.ret ?_
    intro β a w hs
    have h2 : a.tmps.getD 2 undef = β 1 := hs.fr 2
    obtain ⟨cs, _, hrow, _⟩ := hs.own 1 _ rfl
    refine ⟨.inr rfl, hs.df, hs.bel.below (Ownr.plain_noR _ _), .inl ?_⟩
    rw [h2]
    rcases hrow.2 with ⟨hv7, _⟩ | ⟨g, cap, cur, hv7, _, _, _, hmax, _⟩
    · exact ⟨none, 0, hv7⟩
    · exact ⟨_, _, hv7⟩
  · have hlen : (List.replicate fs.length ([] : List UInt8)).length = fs.length := List.length_replicate
    rw [hlen] at hv7 hcap htake
    have hgn : w0.heap.size ≤ g := by
      rcases hs.new 1 _ g rfl (by rw [hv7]; rfl) with h9 | h9
      · exact h9
      · exact (Ownr.plain_noR _ _ _ h9).elim
    have hog : OSet (Ownr.plain dG noO) [(1, some (OObj.buf 27 bs (List.replicate fs.length [])))] β g := .inr ⟨1, _, rfl, by rw [hv7]; rfl⟩
    have hI : RI w0 g fs.length cap 27 [(5, ⟨.slice bs, fs⟩), (6, ⟨i64, (m : Int)⟩), (7, ⟨.lit, .slice (some ⟨g, 0, none⟩) fs.length cap⟩)] a w := by
      refine ⟨hs.sz, hs.df, fun s β' => ?_, hs.bel.below (Ownr.plain_noR _ _), hgn, cur, hg, by rw [hcs]; exact Nat.mul_one _, fun i hi => ?_⟩
      · refine dF_rep (β := β) (dF_all rfl s) ?_
        refine rep_cons (RepV.keep ⟨Nat.le_refl _, fun _ _ _ => rfl, fun q _ hq => ?_⟩ _ _ _ (hs.fr 5)) (rep_cons (repV_flat rfl (hs.fr 6)) (rep_cons (by rw [hv, hv7]; rfl) rep_nil)) s
        have hq : q = g := hq
        rw [hq]; exact hog
      · have hcl : cs.length = fs.length := by
          have := hL.len (s := 1) fun x c h => RepC.len bs x c h
          rw [hlen] at this
          omega
        have hi2 : i < cs.length := by omega
        have hnth := hL.nth (s := 1) (i := i) (x := []) (fun x c h => RepC.len bs x c h) (by rw [List.getElem?_replicate, if_pos hi])
        obtain ⟨u, hu1, hu2⟩ := hnth
        rw [Nat.mul_one, List.drop_eq_getElem_cons hi2, List.take_succ_cons, List.take_zero] at hu1
        cases hu1
        refine ⟨cs[i], ?_, ?_⟩
        · have ht : cur.toList.take fs.length = cs := by rw [← htake, show fs.length * bs.size = fs.length from Nat.mul_one _]
          have : (cur.toList.take fs.length)[i]? = some cs[i] := by rw [ht]; exact List.getElem?_eq_getElem hi2
          rw [List.getElem?_take, if_pos hi, Array.getElem?_toList] at this
          exact this
        · rcases hu2 with ⟨_, A, c, h9, _⟩ | ⟨_, _, _, _, _, h9, _⟩
          · exact .inl ⟨A, c, h9⟩
          · exact absurd rfl h9
    clear hs hL htake hog
    obtain ⟨v, hvd⟩ : ∃ v, v = Value.slice (some ⟨g, 0, none⟩) fs.length cap := ⟨_, rfl⟩
    refine wpIn_seq (Go.wpIn_mono (Q := fun e a' w' => e = .normal ∧ ∃ k, RI w0 g fs.length cap 27 (fRec m fs (.slice (some ⟨g, 0, none⟩) fs.length cap) k) a' w') ?_ fun e a' w' ⟨he, k, hI2⟩ => ?_)
    · refine (AWPR.seq ?_ : AWPR Tryd.prog w (Ownr.plain dG (oneO g)) 44 _ _ _) (fun _ => undef) a w (hI.sim rfl _)
      have hX := hI.ok hG
      (repeat (first | refine AWP.seq ?_ | refine AWP.skip ?_ | refine AWP.block ?_ | refine AWP.exit ?_)); refine AWP.region hX kJ_ok rfl ?_ ?_
      · trivial
      refine thenQ_normal ?_
      intro β1 a1 w1 hs1
      have hI1 := hI.step hs1 rfl (F' := fRec m fs (.slice (some ⟨g, 0, none⟩) fs.length cap) 0) ⟨rfl, rfl, rfl, rfl, rfl, trivial⟩ rfl
      refine wpIn_block (wpIn_family (fun k a w => k ≤ fs.length ∧ RI w0 g fs.length cap 27 (fRec m fs (.slice (some ⟨g, 0, none⟩) fs.length cap) k) a w) (fun k => fs.length - k) 0 ⟨Nat.zero_le _, hI1⟩ ?_)
      rintro k a2 w2 ⟨hk, hI2⟩
      have hX := hI2.ok hG
      refine (AWPR.seq ?_ : AWPR Tryd.prog w2 (Ownr.plain dG (oneO g)) 44 _ _ _) (fun _ => undef) a2 w2 (hI2.sim rfl _)
      unfold fRec
      (repeat (first | refine AWP.seq ?_ | refine AWP.skip ?_ | refine AWP.block ?_ | refine AWP.exit ?_)); refine AWP.region hX kJ_ok rfl ?_ ?_
      · trivial
      refine thenQ_normal ?_
      refine AWPR.seq ?_
      refine AWP.cond rfl (fun hb => ?_) (fun hb => ?_)
      · have hb : decide ((k : Int) < (fs.length : Nat)) = true := hb
        have hb := of_decide_eq_true hb
        have hlt : k < fs.length := by omega
        refine AWP.skip ?_
        refine thenQ_normal ?_
        intro β3 a3 w3 hs3
        have hI3 := hI2.step hs3 rfl (F' := fRec m fs (.slice (some ⟨g, 0, none⟩) fs.length cap) k) ⟨rfl, rfl, rfl, rfl, rfl, trivial⟩ rfl
        refine wpIn_seq (Go.wpIn_mono (Q := fun e a' w' => e = .normal ∧ RI w0 g fs.length cap 27 (fRec m fs (.slice (some ⟨g, 0, none⟩) fs.length cap) k) a' w') ?_ fun e a4 w4 ⟨he, hI4⟩ => ?_)
        · obtain ⟨y, hy⟩ : ∃ y, fs.getD k [] = y := ⟨_, rfl⟩
          have hyl : y.length ≤ 1100000 := hbig y (by rw [← hy, List.getD_eq_getElem?_getD, List.getElem?_eq_getElem hlt]; exact List.getElem_mem _)
          refine wpIn_block (Go.wpIn_mono (Q := fun e a' w' => e = .normal ∧ RI w0 g fs.length cap 27 (fRec m fs (.slice (some ⟨g, 0, none⟩) fs.length cap) k) a' w') ?_ fun e a5 w5 ⟨he, h5⟩ => by subst he; exact ⟨rfl, h5⟩)
          have hX := hI3.ok hG
          refine (AWPR.seq ?_ : AWPR Tryd.prog w3 (Ownr.plain dG (oneO g)) 44 _ _ _) (fun _ => undef) a3 w3 (hI3.sim rfl _)
          unfold fRec
          (repeat (first | refine AWP.seq ?_ | refine AWP.skip ?_ | refine AWP.block ?_ | refine AWP.exit ?_)); refine AWP.region hX kJ_ok rfl ?_ ?_
          · exact ⟨by omega, by show (k : Int) < (fs.length : Nat); omega⟩
          refine thenQ_normal ?_
          intro β5 a5 w5 hs5
          have hI5 := hI3.step hs5 rfl (F' := [(6, ⟨i64, (m : Int)⟩), (7, ⟨.lit, .slice (some ⟨g, 0, none⟩) fs.length cap⟩), (8, ⟨i64, (k : Int)⟩), (9, ⟨bs, y⟩), (22, ⟨.slice bs, fs⟩), (23, ⟨i64, ((fs.length : Nat) : Int)⟩), (24, ⟨i64, (k : Int)⟩)]) ⟨rfl, rfl, rfl, vBs (by rw [← hy, ← Int.toNat_natCast k]; rfl), rfl, rfl, rfl, trivial⟩ rfl
          obtain ⟨C, hC, hCs, _⟩ := hI5.rows
          refine Go.wpIn_mono (row_new (k := k) (hI5.ok hG) kJ_ok (hI5.sim rfl (fun _ => undef)) rfl rfl rfl ?_ rfl rfl rfl rfl rfl rfl rfl rfl rfl rfl rfl rfl rfl rfl rfl rfl rfl rfl rfl rfl rfl rfl rfl rfl rfl rfl rfl rfl rfl rfl rfl rfl rfl ?_ hC hCs hcap (by omega) (Int.toNat_natCast k) hlt (by decide) (by decide) (by decide) (by decide) (by decide) (by decide) (by decide) ⟨by decide, by decide, by decide, by decide⟩ (by decide) (by decide) (by decide) (by decide) (by decide) (by decide) (by decide)
            (fRec m fs (.slice (some ⟨g, 0, none⟩) fs.length cap) k) ⟨rfl, rfl, rfl, rfl, rfl, trivial⟩ rfl rfl rfl) fun e a6 w6 hr => ⟨hr.1, hI5.row hC hr⟩
          · exact ⟨by show (0 : Int) ≤ ((y.length : Nat) : Int); omega, Int.le_refl _, by show ((y.length : Nat) : Int) ≤ 1000000000; omega⟩
          · show (List.replicate ((y.length : Nat) : Int).toNat (zeroX u8)).length = y.length
            rw [List.length_replicate, Int.toNat_natCast]
        · subst he
          have hX := hI4.ok hG
          refine (AWPR.of ?_ : AWPR Tryd.prog w4 (Ownr.plain dG (oneO g)) 44 _ _ _) (fun _ => undef) a4 w4 (hI4.sim rfl _)
          unfold fRec
          (repeat (first | refine AWP.seq ?_ | refine AWP.skip ?_ | refine AWP.block ?_ | refine AWP.exit ?_)); refine AWP.region hX kJ_ok rfl ?_ ?_
          · exact inR_succ (by omega)
          intro β6 a6 w6 hs6
          exact ⟨k + 1, by omega, by omega, hI4.step hs6 rfl (F' := fRec m fs (.slice (some ⟨g, 0, none⟩) fs.length cap) (k + 1)) ⟨rfl, rfl, rfl, rfl, vSucc _, trivial⟩ rfl⟩
      · refine AWP.exit ?_
        refine thenQ_exit ?_
        intro β6 a6 w6 hs6
        exact ⟨rfl, k, hI2.step hs6 rfl (F' := fRec m fs (.slice (some ⟨g, 0, none⟩) fs.length cap) k) ⟨rfl, rfl, rfl, rfl, rfl, trivial⟩ rfl⟩
    · subst he
      have hX := hI2.ok hG
      refine (AWPR.seq ?_ : AWPR Tryd.prog w' (Ownr.plain dG (oneO g)) 44 _ _ _) (fun _ => undef) a' w' (hI2.sim rfl _)
      unfold fRec
      (repeat (first | refine AWP.seq ?_ | refine AWP.skip ?_ | refine AWP.block ?_ | refine AWP.exit ?_)); refine AWP.region hX kJ_ok rfl ?_ ?_
      · trivial
      refine thenQ_normal ?_
      refine AWPR.of ?_
      refine AWP.ret ?_
      intro β7 a7 w7 hs7
      have hI7 := hI2.step hs7 rfl (F' := []) trivial rfl
      have h2 : a7.tmps.getD 2 undef = .slice (some ⟨g, 0, none⟩) fs.length cap := hs7.fr 2
      obtain ⟨C, hC, hCs, hr⟩ := hI7.rows
      refine ⟨.inr rfl, hs7.df, hI7.bel, ?_⟩
      rw [h2]
      exact .inr ⟨g, cap, _, C, fs.length, rfl, hcap, hmax, by omega, hC, hCs, hgn, fun i hi => by obtain ⟨c, e1, e2⟩ := hr i hi; exact ⟨c, e1, e2.lives⟩⟩
/-- Records, from outside -/
theorem records_new (w : World) (l : Lg) (vs : List Value) (hrep : RepA w noO [jl] (l, ()) vs) (hp : l.1.length ≤ 1100000) (hG : dG w) : Calls Tryd.prog 7 vs.toArray w fun e w' => ∃ v x y, e = .returned (.tuple #[v, x, y]) ∧ Below w.heap.size w w' ∧ Rows w w' v := by
  have hX : (Ownr.plain dG noO).Ok w := ⟨fun g hg => hg.elim, fun g hg => (Ownr.plain_noR _ _ g hg).elim, fun w' hk => dK_ok.st w w' hG (hk.below (Ownr.plain_noR _ _))⟩
  obtain ⟨c, hc, hw⟩ := records_walk w hG hX l hp
  refine calls_of_awpr (G := dG) (n := 44) Tryd.func7 hc rfl (by decide) (by decide) hrep fun β a w1 hs => ?_
  refine Go.wpIn_mono (hw β a w1 hs) fun e a' w' ⟨h1, h2, h3, h4⟩ => ⟨h1, h2, .tuple #[a'.tmps.getD 2 undef, a'.tmps.getD 3 undef, a'.tmps.getD 4 undef], ?_, _, _, _, rfl, h3, h4⟩
  have hm : (Tryd.f7.results.mapM (resM a'.tmps)).run Tryd.prog w' = .ok #[a'.tmps.getD 2 undef, a'.tmps.getD 3 undef, a'.tmps.getD 4 undef] w' := by
    rw [Array.mapM_eq_mapM_toList, show Tryd.f7.results.toList = [.tmp 2, .tmp 3, .tmp 4] from rfl]
    simp [resM]
  rw [results_eq, Sem.run_bind, hm]
  simp
end Go.Proofs.YthhphphdbgkdgaaDoor
