/-
  Package coarse, third part: the cells that a span touches, their iterator; View.
-/
import Derived.Test.YtbbeldmcdjjnbaaDoorCoC
import Derived.Test.YtbbeldmcdjjnbaaDoorAbsFor
namespace Go.Proofs.YtbbeldmcdjjnbaaDoor
open Go Go.RowKit
set_option linter.unusedSimpArgs false
set_option linter.unusedVariables false
set_option maxRecDepth 100000
theorem frame_mem : ∀ (F : List (Nat × V)) (s : Nat), Frame.get F s = ⟨.junk, ()⟩ ∨ ∃ p ∈ F, p.2 = Frame.get F s
  | [], _ => .inl rfl
  | (d, v) :: r, s => by
    rw [Frame.get_cons]
    by_cases h : d = s
    · rw [if_pos h]; exact .inr ⟨(d, v), List.mem_cons_self .., rfl⟩
    · rw [if_neg h]
      rcases frame_mem r s with h | ⟨p, h1, h2⟩
      · exact .inl h
      · exact .inr ⟨p, List.mem_cons_of_mem _ h1, h2⟩
/-- memory may have turned, but for what the slots read -/
theorem Sim.stay {w0 w w' : World} {X : Ownr} {n : Nat} {σ : AS} {β : Nat → Value} {a : Act} {F' : List (Nat × V)} (h : Sim w0 X n σ β a w) (hE : σ.E = []) (hK : X.K = 0) (hF : Sub σ.F F') (hb : bndB 0 F' = true) (hk : ∀ p ∈ F', ∀ u, RepV w X.X β p.2.t p.2.x u → RepV w' X.X β p.2.t p.2.x u) : Sim w' X n ⟨F', [], 0⟩ β a w' :=
  Sim.fresh hK h.sz h.df (fun s => by
    have h1 := (h.weaken hF.get).fr s
    rw [show ({ σ with F := F' } : AS).E = [] from hE, OSet.nil] at h1
    have h1 : RepV w X.X β (Frame.get F' s).t (Frame.get F' s).x (a.tmps.getD s undef) := h1
    rcases frame_mem F' s with e | ⟨p, hp, e⟩
    · rw [e]; trivial
    · rw [← e] at h1 ⊢
      exact hk p hp _ h1) hb
/-- the cells that a span touches: the first one, how many -/
def tchA (s w : Sp) (c : Int) : Int := (max s.1 w.1 - w.1) / c
def tchN (s w : Sp) (c : Int) : Nat := if max s.1 w.1 < min s.2.1 w.2.1 then ((min s.2.1 w.2.1 - w.1 + c - 1) / c - tchA s w c).toNat else 0
theorem tch_iff {s w : Sp} {c : Int} (hc : 1 ≤ c) (k : Nat) : k < tchN s w c ↔ max s.1 w.1 < min s.2.1 w.2.1 ∧ (tchA s w c + k) * c < min s.2.1 w.2.1 - w.1 := by
  unfold tchN
  by_cases h : max s.1 w.1 < min s.2.1 w.2.1
  · rw [if_pos h]
    have e : (tchA s w c + k) * c < min s.2.1 w.2.1 - w.1 ↔ tchA s w c + k < (min s.2.1 w.2.1 - w.1 + c - 1) / c := by
      rw [← Int.add_one_le_iff (a := tchA s w c + k), Int.le_ediv_iff_mul_le (by omega), Int.add_mul (tchA s w c + k) 1 c, Int.one_mul]
      omega
    rw [e]
    constructor
    · intro h1; exact ⟨h, by omega⟩
    · intro h1; omega
  · rw [if_neg h]
    constructor
    · intro h1; omega
    · intro h1; exact absurd h1.1 h
abbrev capT : Ty := .tup (.vptr sp) (.tup (.vptr sp) (.tup (.vptr i64) .unit))
def cTouch : Ctr := { args := [sp, sp, i64], pre := fun _ => [], res := .clo 24 capT, own := none, out := fun x => (x.1, x.2.1, x.2.2.1, ()) }
theorem touch_ok : CtrOk Tryd.prog pG 15 cTouch := by
  refine ctr_of_awp (K := coK) coK_ok Tryd.func15 rfl rfl Tryd.call15 rfl (by decide) (by intro h; cases h) ?_
  rintro w0 X hX ⟨(s : Sp), (w : Sp), (c : Int), _⟩ hp
  change AWP _ _ _ _ _ ⟨[(0, ⟨sp, s⟩), (1, ⟨sp, w⟩), (2, ⟨i64, c⟩)], [], 0⟩ _
  (repeat (first | refine AWP.seq ?_ | refine AWP.skip ?_ | refine AWP.block ?_ | refine AWP.exit ?_)); refine AWP.region hX coK_ok rfl ?_ ?_
  · trivial
  refine AWP.frzB hX 3 ?_
  refine AWP.frzB hX 4 ?_
  refine AWP.frzB hX 5 ?_
  (repeat (first | refine AWP.seq ?_ | refine AWP.skip ?_ | refine AWP.block ?_ | refine AWP.exit ?_)); refine AWP.region hX coK_ok rfl ?_ ?_
  · trivial
  exact AWP.ret ⟨.inr rfl, done1 rfl trivial rfl rfl rfl⟩
/-- the bounds of a span, a window, a cell -/
def tchOk (s w : Sp) (c : Int) : Prop := (-2251799813685248 ≤ s.1 ∧ s.1 ≤ 2251799813685248 ∧ -2251799813685248 ≤ s.2.1 ∧ s.2.1 ≤ 2251799813685248) ∧ (-2251799813685248 ≤ w.1 ∧ w.1 ≤ 2251799813685248 ∧ -2251799813685248 ≤ w.2.1 ∧ w.2.1 ≤ 2251799813685248) ∧ 1 ≤ c ∧ c ≤ 1440
abbrev tchF (l g1 o1 g2 o2 g3 o3 : Nat) (s w : Sp) (c : Int) : List (Nat × V) := [(0, ⟨.lit, .func (.yield l) #[] #[]⟩), (1, ⟨.cptr g1 o1 sp, s⟩), (2, ⟨.cptr g2 o2 sp, w⟩), (3, ⟨.cptr g3 o3 i64, c⟩)]
def codeSeq : Nat → Code → Code
  | 0, c => c
  | n + 1, .seq _ b => codeSeq n b
  | _, c => c
abbrev XT : Ownr := Ownr.plain pG (fun _ => False)
theorem XT_ok (w : World) : XT.Ok w := ⟨fun g h => h.elim, fun g h => (Ownr.plain_noR _ _ g h).elim, fun _ _ => trivial⟩
theorem cptr_stay {w w' : World} {O : Nat → Prop} {β : Nat → Value} {g o : Nat} {t : Ty} (ht : t.flat = true) {x : t.T} {u : Value} (hk : w'.heap[g]? = w.heap[g]?) (h : RepV w O β (.cptr g o t) x u) : RepV w' O β (.cptr g o t) x u := by
  obtain ⟨cs, h1, h2, h3, h4, h5⟩ := h
  have h2' : g < w'.heap.size := (Array.getElem?_eq_some_iff.1 (hk.trans (Array.getElem?_eq_getElem h2))).1
  exact ⟨cs, h1, h2', h3, repC_flat t ht x cs h4, h5.keep hk⟩
set_option maxHeartbeats 1000000 in
theorem tch_loop (l : Nat) (J : Nat → World → Prop) (W : World) (g1 o1 g2 o2 g3 o3 : Nat) (s w : Sp) (c : Int) (hok : tchOk s w c) (C : Nat → Prop) (hC : C g1 ∧ C g2 ∧ C g3)
    (hJ : ∀ k A B, J k A → Below A.heap.size A B → J k B)
    (hY : ∀ k W1, J k W1 → k < tchN s w c → W.heap.size ≤ W1.heap.size → YieldAt Fence.wide 0 Tryd.prog l #[.int .i64 (tchA s w c + k)] W1 fun e W' => e = .returned (.bool true) ∧ J (k + 1) W' ∧ SameOn C W.heap.size W1 W')
    {β : Nat → Value} {a : Act} {w1 : World} (h1 : Sim w1 XT 43 ⟨(5, ⟨i64, max s.1 w.1⟩) :: (6, ⟨i64, min s.2.1 w.2.1⟩) :: (7, ⟨i64, tchA s w c⟩) :: tchF l g1 o1 g2 o2 g3 o3 s w c, [], 0⟩ β a w1) (hs1 : W.heap.size ≤ w1.heap.size) (hj1 : J 0 w1) :
    (codeSeq 2 (Tryd.f24.body.getD .skip)).wpIn Fence.wide 0 Tryd.prog (fun e a w' => (e = .normal ∨ e = .ret) ∧ a.defers = [] ∧ J (tchN s w c) w') a w1 := by
  have hXR : ∀ g, ¬ XT.R g := Ownr.plain_noR _ _
  obtain ⟨⟨ha1, ha2, ha3, ha4⟩, ⟨hb1, hb2, hb3, hb4⟩, hc1, hc2⟩ := hok
  refine wpIn_block ?_
  let F (k : Nat) : List (Nat × V) := (5, ⟨i64, max s.1 w.1⟩) :: (6, ⟨i64, min s.2.1 w.2.1⟩) :: (7, ⟨i64, tchA s w c + (k : Int)⟩) :: tchF l g1 o1 g2 o2 g3 o3 s w c
  have hm : ∀ k, bndB 0 (F k) = true := fun k => rfl
  refine wpIn_family (fun k a w' => (∃ β, Sim w' XT 43 ⟨F k, [], 0⟩ β a w') ∧ k ≤ tchN s w c ∧ W.heap.size ≤ w'.heap.size ∧ J k w') (fun k => tchN s w c - k) 0 ⟨⟨β, h1.fit ⟨⟨rfl, rfl, V.congr (show tchA s w c = tchA s w c + ((0 : Nat) : Int) by omega), rfl, rfl, rfl, rfl, trivial⟩, trivial, rfl, rfl⟩ (Nat.zero_le _)⟩, Nat.zero_le _, hs1, hj1⟩ ?_
  rintro k a w2 ⟨⟨β, h⟩, hk, hs, hj⟩
  have hA : 0 ≤ tchA s w c := Int.ediv_nonneg (by omega) (by omega)
  have hmul : max s.1 w.1 < min s.2.1 w.2.1 → inR .i64 ((tchA s w c + (k : Int)) * c) ∧ inR .i64 (tchA s w c + (k : Int) + 1) := fun hlt => by
    have h6 : 0 ≤ (tchA s w c + (k : Int)) * c := Int.mul_nonneg (by omega) (by omega)
    have h7 : tchA s w c ≤ (min s.2.1 w.2.1 - w.1 + c - 1) / c := Int.ediv_le_ediv (by omega) (by omega)
    have h8 : tchA s w c + (k : Int) ≤ (min s.2.1 w.2.1 - w.1 + c - 1) / c := by
      unfold tchN at hk
      rw [if_pos hlt] at hk
      omega
    have h9 : (tchA s w c + (k : Int)) * c ≤ min s.2.1 w.2.1 - w.1 + c - 1 := (Int.le_ediv_iff_mul_le (by omega)).1 h8
    have h10 : (min s.2.1 w.2.1 - w.1 + c - 1) / c ≤ min s.2.1 w.2.1 - w.1 + c - 1 := Int.ediv_le_self _ (by omega)
    exact ⟨inR_small (by omega) (by omega), inR_small (by omega) (by omega)⟩
  have hsub : inR .i64 (min s.2.1 w.2.1 - w.1) := inR_small (by omega) (by omega)
  refine wpIn_seq (Go.wpIn_mono ((show AWP Tryd.prog w2 XT 43 _ _ (fun e σ => ((e = .exit 0 ∧ ¬ k < tchN s w c) ∨ (e = .normal ∧ k < tchN s w c)) ∧ Sub σ.F (F k) ∧ σ.E = []) from ?_) β a w2 h) ?_)
  · have hX := XT_ok w2
    (repeat (first | refine AWP.seq ?_ | refine AWP.skip ?_ | refine AWP.block ?_ | refine AWP.exit ?_)); refine AWP.region hX coK_ok rfl ?_ ?_
    · repeat' (first | exact trivial | exact hsub | assumption | (intro hb) | exact (hmul (of_decide_eq_true (by assumption))).1 | (refine ⟨?_, ?_⟩))
    refine AWP.cond rfl (fun hb => ?_) (fun hb => ?_)
    · have hb : (bif decide (max s.1 w.1 < min s.2.1 w.2.1) then decide ((tchA s w c + (k : Int)) * c < min s.2.1 w.2.1 - w.1) else false) = true := hb
      rw [b_and, Bool.and_eq_true, decide_eq_true_iff, decide_eq_true_iff] at hb
      exact AWP.skip ⟨.inr ⟨rfl, (tch_iff hc1 k).2 hb⟩, ⟨rfl, rfl, rfl, rfl, rfl, rfl, rfl, trivial⟩, rfl⟩
    · have hb : (bif decide (max s.1 w.1 < min s.2.1 w.2.1) then decide ((tchA s w c + (k : Int)) * c < min s.2.1 w.2.1 - w.1) else false) = false := hb
      rw [b_and, Bool.and_eq_false_iff, decide_eq_false_iff_not, decide_eq_false_iff_not] at hb
      exact AWP.exit ⟨.inl ⟨rfl, fun h => by
        have h := (tch_iff hc1 k).1 h
        rcases hb with hb | hb
        · exact hb h.1
        · exact hb h.2⟩, ⟨rfl, rfl, rfl, rfl, rfl, rfl, rfl, trivial⟩, rfl⟩
  rintro e a3 w3 ⟨σ3, β3, h3, he, hF, hE⟩
  have hb3 : Below w2.heap.size w2 w3 := h3.bel.below hXR
  have hj3 : J k w3 := hJ k _ _ hj hb3
  have hs3 : W.heap.size ≤ w3.heap.size := Nat.le_trans hs hb3.size
  rcases he with ⟨rfl, hge⟩ | ⟨rfl, hlt⟩
  · have : k = tchN s w c := by omega
    simp only [Exit.then, Exit.inBlock, if_true]
    refine ⟨.inl trivial, h3.df, ?_⟩
    rw [← this]
    exact hj3
  have hlt2 := ((tch_iff hc1 k).1 hlt).1
  have h4 := h3.rebase hE rfl hF (hm k)
  refine wpIn_seq ?_
  refine Go.wpIn_mono (Q := fun e a w' => e = .normal ∧ (∃ β, Sim w' XT 43 ⟨F k, [], 0⟩ β a w') ∧ W.heap.size ≤ w'.heap.size ∧ J (k + 1) w') ?_ ?_
  · refine wpIn_block ?_
    refine wpIn_seq ?_
    refine Go.wpIn_mono (Q := fun e a w' => e = .normal ∧ (∃ β, Sim w' XT 43 ⟨(42, ⟨.bool, false⟩) :: F k, [], 0⟩ β a w') ∧ W.heap.size ≤ w'.heap.size ∧ J (k + 1) w') ?_ ?_
    · refine wpIn_region_list ?_
      rw [← List.take_append_drop 2 (Array.toList _)]
      refine wpListIn_append _ _ (wpListIn_of_wpList (ρ := none) not_lets _ rfl (aSeq_wp (K := coK) coK_ok (XT_ok w3) _ h4 rfl trivial fun β5 a5 w5 h5 => ⟨rfl, ?_⟩))
      have hb5 : Below w3.heap.size w3 w5 := h5.bel.below hXR
      have hs5 : W.heap.size ≤ w5.heap.size := Nat.le_trans hs3 hb5.size
      refine wpListIn_plain rfl fun K hK => ?_
      have hr : RepV w5 _ β5 i64 (tchA s w c + (k : Int)) (a5.eval (.tmp 40)) := h5.ops (.tmp 40)
      have hr : a5.eval (.tmp 40) = .int .i64 (tchA s w c + k) := by
        have h6 := (RepD.scalar (t := i64) rfl).1 hr
        have h6 : [a5.eval (.tmp 40)] = [.int .i64 (tchA s w c + k)] := h6
        exact List.head_eq_of_cons_eq h6
      have hy := hY k w5 (hJ k _ _ hj3 hb5) hlt hs5
      rw [show (#[.int .i64 (tchA s w c + k)] : Array Value) = #[Operand.tmp 40].map a5.eval from by simp [hr]] at hy
      refine wpIn_yield rfl (h5.ops (.tmp 39)) (YieldAt.any hy) ?_
      rintro e w6 ⟨rfl, hj6, hk6⟩
      refine ⟨_, rfl, hK _ _ ?_⟩
      have h6 := Sim.stay (w' := w6) (F' := F k) h5 rfl rfl ⟨rfl, rfl, rfl, rfl, rfl, rfl, rfl, trivial⟩ (hm k) (by
        intro p hp u hu
        simp only [F, List.mem_cons, List.not_mem_nil, or_false] at hp
        rcases hp with rfl | rfl | rfl | rfl | rfl | rfl | rfl
        · exact repV_flat (t := i64) rfl hu
        · exact repV_flat (t := i64) rfl hu
        · exact repV_flat (t := i64) rfl hu
        · exact hu
        · exact cptr_stay rfl (hk6.block _ hC.1) hu
        · exact cptr_stay rfl (hk6.block _ hC.2.1) hu
        · exact cptr_stay rfl (hk6.block _ hC.2.2) hu)
      have h7 := h6.put (Below.refl _ _) (v := ⟨.bool, true⟩) (u := .bool true) RepV.ofBool (Nat.zero_le _) (d := 41) (by omega)
      have hs6 : W.heap.size ≤ w6.heap.size := hk6.size
      refine wpListIn_of_wpList (ρ := none) not_lets _ rfl (aSeq_wp (K := coK) coK_ok (XT_ok w6) _ h7 rfl trivial fun β8 a8 w8 h8 => ⟨rfl, ?_⟩)
      have hb8 : Below w6.heap.size w6 w8 := h8.bel.below hXR
      exact ⟨⟨β8, h8.rebase rfl rfl ⟨rfl, rfl, rfl, rfl, rfl, rfl, rfl, rfl, trivial⟩ rfl⟩, Nat.le_trans hs6 hb8.size, hJ _ _ _ hj6 hb8⟩
    · rintro e a8 w8 ⟨rfl, ⟨β8, h8⟩, hs8, hj8⟩
      refine Go.wpIn_mono ((show AWP Tryd.prog w8 XT 43 _ _ (fun e σ => e = .normal ∧ Sub σ.F (F k) ∧ σ.E = []) from ?_) β8 a8 w8 h8) ?_
      · refine AWP.cond rfl (fun hb => by cases hb) (fun _ => AWP.skip ⟨rfl, ⟨rfl, rfl, rfl, rfl, rfl, rfl, rfl, trivial⟩, rfl⟩)
      · rintro e a9 w9 ⟨σ9, β9, h9, rfl, hF9, hE9⟩
        have hb9 : Below w8.heap.size w8 w9 := h9.bel.below hXR
        exact ⟨rfl, ⟨β9, h9.rebase hE9 rfl hF9 (hm k)⟩, Nat.le_trans hs8 hb9.size, hJ _ _ _ hj8 hb9⟩
  · rintro e a8 w8 ⟨rfl, ⟨β8, h8⟩, hs8, hj8⟩
    refine Go.wpIn_mono ((show AWP Tryd.prog w8 XT 43 _ _ (fun e σ => e = .normal ∧ Sub σ.F (F (k + 1)) ∧ σ.E = []) from ?_) β8 a8 w8 h8) ?_
    · have hX := XT_ok w8
      (repeat (first | refine AWP.seq ?_ | refine AWP.skip ?_ | refine AWP.block ?_ | refine AWP.exit ?_)); refine AWP.region hX coK_ok rfl ?_ ?_
      · exact (hmul hlt2).2
      exact ⟨rfl, ⟨rfl, rfl, V.congr (by show tchA s w c + (k : Int) + 1 = tchA s w c + ((k + 1 : Nat) : Int); omega), rfl, rfl, rfl, rfl, trivial⟩, rfl⟩
    · rintro e a9 w9 ⟨σ9, β9, h9, rfl, hF9, hE9⟩
      have hb9 : Below w8.heap.size w8 w9 := h9.bel.below hXR
      exact ⟨k + 1, by omega, ⟨β9, h9.rebase hE9 rfl hF9 (hm (k + 1))⟩, by omega, Nat.le_trans hs8 hb9.size, hJ _ _ _ hj8 hb9⟩
/-- the iterator hands out the cells -/
theorem tch_seq (s w : Sp) (c : Int) (hok : tchOk s w c) (W0 : World) (us : List Value) (O' : Nat → Prop) (hcap : RepCap W0 O' capT (s, w, c, ()) us) :
    ∃ (C : Nat → Prop) (ts : List Value), ts.length = tchN s w c ∧ (∀ (k : Nat) (v : Value), ts[k]? = some v → ∀ (w' : World) (O'' : Nat → Prop) β', W0.heap.size ≤ w'.heap.size → (∀ g, C g → w'.heap[g]? = W0.heap[g]? ∧ ¬ O'' g) → RepV w' O'' β' i64 (tchA s w c + (k : Int)) v) ∧ (∀ g, C g → g < W0.heap.size ∧ ¬ O' g) ∧ SeqVal Tryd.prog 0 24 us.toArray C ts W0 := by
  obtain ⟨u1, r1, rfl, ⟨g1, o1, cs1, rfl, hl1, hn1, hr1, hc1⟩, u2, r2, rfl, ⟨g2, o2, cs2, rfl, hl2, hn2, hr2, hc2⟩, u3, r3, rfl, ⟨g3, o3, cs3, rfl, hl3, hn3, hr3, hc3⟩, rfl⟩ := hcap
  refine ⟨fun g => g = g1 ∨ g = g2 ∨ g = g3, (List.range (tchN s w c)).map fun (k : Nat) => .int .i64 (tchA s w c + (k : Int)), by simp, fun k v hv w' O'' β' _ _ => ?_, fun g hg => by rcases hg with rfl | rfl | rfl <;> exact ⟨by assumption, by assumption⟩, ?_⟩
  · rw [List.getElem?_map] at hv
    obtain ⟨k', h1, rfl⟩ := Option.map_eq_some_iff.1 hv
    have : k' = k := by
      have h2 := (List.getElem?_eq_some_iff.1 h1)
      obtain ⟨h3, h4⟩ := h2
      rw [List.getElem_range] at h4
      exact h4.symm
    subst this
    exact (RepD.scalar rfl).2 rfl
  intro l J W hW hJ hY h0
  refine callsIn_of_wp Tryd.func24 rfl trivial ?_ rfl
  have hX := XT_ok W
  have hcp : ∀ {g o : Nat} {t : Ty} {x : t.T} {cs : List Value} (ht : t.flat = true) (β : Nat → Value), g < W0.heap.size → RepC W0 O' t x cs → CellsAt W0 g o cs → RepV W (fun _ => False) β (.cptr g o t) x (.pointer (some ⟨g, o, none⟩)) := fun ht β hl hr hc =>
    ⟨_, rfl, Nat.lt_of_lt_of_le hl hW.size, fun h => h, repC_flat _ ht _ _ hr, hc.keep (hW.block _ hl)⟩
  have hsim : Sim W XT 43 ⟨tchF l g1 o1 g2 o2 g3 o3 s w c, [], 0⟩ (fun _ => undef)
      { tmps := (#[.func (.yield l) #[] #[]] ++ [Value.pointer (some ⟨g1, o1, none⟩), .pointer (some ⟨g2, o2, none⟩), .pointer (some ⟨g3, o3, none⟩)].toArray) ++ Array.replicate (Tryd.f24.ntmps - (#[.func (.yield l) #[] #[]] ++ [Value.pointer (some ⟨g1, o1, none⟩), .pointer (some ⟨g2, o2, none⟩), .pointer (some ⟨g3, o3, none⟩)].toArray : Array Value).size) undef, defers := [] } W := by
    refine Sim.fresh rfl (by simp [Tryd.ntmps24]) rfl ?_ rfl
    refine rep_cons (by rw [getD_app (by simp)]; rfl) (rep_cons ?_ (rep_cons ?_ (rep_cons ?_ rep_nil)))
    · rw [getD_app (by simp)]; exact hcp (t := sp) rfl _ hl1 hr1 hc1
    · rw [getD_app (by simp)]; exact hcp (t := sp) rfl _ hl2 hr2 hc2
    · rw [getD_app (by simp)]; exact hcp (t := i64) rfl _ hl3 hr3 hc3
  suffices h : RWP Tryd.prog W XT 43 (Tryd.f24.body.getD .skip) ⟨tchF l g1 o1 g2 o2 g3 o3 s w c, [], 0⟩ (bodyPost Tryd.prog Tryd.f24 fun e W' => (∃ v, e = .returned v) ∧ J ((List.range (tchN s w c)).map fun (k : Nat) => (.int .i64 (tchA s w c + (k : Int)) : Value)).length W') from
    (wpIn_wide (n := 0)).2 ((wpIn_wide (n := 0)).1 (h _ _ _ hsim))
  obtain ⟨⟨ha1, ha2, ha3, ha4⟩, ⟨hb1, hb2, hb3, hb4⟩, hcc1, hcc2⟩ := hok
  refine RWP.seq ?_
  (repeat (first | refine AWP.seq ?_ | refine AWP.skip ?_ | refine AWP.block ?_ | refine AWP.exit ?_)); refine AWP.draw dM hX coK_ok 12 (by kernel_rfl) rfl rfl ?_ ?_ ?_
  · trivial
  · trivial
  refine RWP.seq ?_
  have hsub : inR .i64 (max s.1 w.1 - w.1) := inR_small (by omega) (by omega)
  have hz : c ≠ 0 := by omega
  have hq : (max s.1 w.1 - w.1).tdiv c = tchA s w c := by
    rw [Int.tdiv_eq_ediv_of_nonneg (by omega)]
    rfl
  have hq2 : inR .i64 ((max s.1 w.1 - w.1).tdiv c) := by
    rw [hq]
    have h4 : tchA s w c ≤ max s.1 w.1 - w.1 := Int.ediv_le_self _ (by omega)
    have h5 : 0 ≤ tchA s w c := Int.ediv_nonneg (by omega) (by omega)
    exact inR_small (by omega) (by omega)
  (repeat (first | refine AWP.seq ?_ | refine AWP.skip ?_ | refine AWP.block ?_ | refine AWP.exit ?_)); refine AWP.region hX coK_ok rfl ?_ ?_
  · repeat' (first | exact trivial | exact hsub | exact hz | exact hq2 | (refine ⟨?_, ?_⟩))
  intro β1 a1 w1 h1
  have hb1' : Below W.heap.size W w1 := h1.bel.below (Ownr.plain_noR _ _)
  have h2 := h1.rebase (F' := (5, ⟨i64, max s.1 w.1⟩) :: (6, ⟨i64, min s.2.1 w.2.1⟩) :: (7, ⟨i64, tchA s w c⟩) :: tchF l g1 o1 g2 o2 g3 o3 s w c) rfl rfl ⟨rfl, rfl, V.congr hq, rfl, rfl, rfl, rfl, trivial⟩ rfl
  refine Go.wpIn_mono (tch_loop l J W g1 o1 g2 o2 g3 o3 s w c ⟨⟨ha1, ha2, ha3, ha4⟩, ⟨hb1, hb2, hb3, hb4⟩, hcc1, hcc2⟩ (fun g => g = g1 ∨ g = g2 ∨ g = g3) ⟨.inl rfl, .inr (.inl rfl), .inr (.inr rfl)⟩ hJ (fun k W1 hj hk hs => ?_) h2 hb1'.size (hJ 0 _ _ h0 hb1')) ?_
  · refine YieldAt.any (hY k (.int .i64 (tchA s w c + (k : Int))) W1 hj ?_ hs)
    rw [List.getElem?_map, List.getElem?_range hk]
    rfl
  · rintro e a2 w2 ⟨he, hd, hj⟩
    have hlen : ((List.range (tchN s w c)).map fun (k : Nat) => (.int .i64 (tchA s w c + (k : Int)) : Value)).length = tchN s w c := by simp
    have hres : (results Tryd.f24 a2.tmps).run Tryd.prog w2 = .ok (.tuple #[]) w2 := results_none rfl _ _ _
    rcases he with rfl | rfl
    · exact ⟨hd, _, hres, ⟨_, rfl⟩, by rw [hlen]; exact hj⟩
    · exact ⟨hd, _, hres, ⟨_, rfl⟩, by rw [hlen]; exact hj⟩
end Go.Proofs.YtbbeldmcdjjnbaaDoor
