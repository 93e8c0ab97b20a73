/-
  slices.Chunk of integers and its iterator.
-/
import Derived.Test.YtbbeldmcdjjnbaaGreatDoorCoE
namespace Go.Proofs.YtbbeldmcdjjnbaaGreatDoor
open Go Go.RowKit
set_option linter.unusedSimpArgs false
set_option linter.unusedVariables false
set_option maxRecDepth 100000
abbrev capC : Ty := .tup (.vptr ints) (.tup (.vptr i64) .unit)
def cChunk : Ctr := { args := [ints, i64], pre := fun x => [1 ≤ x.2.1], res := .clo 48 capC, own := none, out := fun x => (x.1, x.2.1, ()) }
theorem chunk_ok : CtrOk Tryz.prog pG 28 cChunk := by
  refine ctr_of_awp (K := coK) coK_ok Tryz.func28 rfl rfl Tryz.call28 rfl (by decide) (by intro h; cases h) ?_
  rintro w0 X hX ⟨(l : List Int), (n : Int), _⟩ hp
  have hp : 1 ≤ n := hp
  change AWP _ _ _ _ _ ⟨[(0, ⟨ints, l⟩), (1, ⟨i64, n⟩)], [], 0⟩ _
  (repeat (first | refine AWP.seq ?_ | refine AWP.skip ?_ | refine AWP.block ?_ | refine AWP.exit ?_)); refine AWP.region hX coK_ok rfl ?_ ?_
  · trivial
  refine AWP.frzB hX 2 ?_
  refine AWP.frzB hX 3 ?_
  (repeat (first | refine AWP.seq ?_ | refine AWP.skip ?_ | refine AWP.block ?_ | refine AWP.exit ?_)); refine AWP.region hX coK_ok rfl ?_ ?_
  · trivial
  refine AWP.cond rfl (fun hb => ?_) (fun hb => ?_)
  · have hb : decide (n < 1) = true := hb
    have hb := of_decide_eq_true hb
    omega
  (repeat (first | refine AWP.seq ?_ | refine AWP.skip ?_ | refine AWP.label ?_ | refine AWP.exit ?_ | refine AWP.block ?_ | refine AWP.region hX coK_ok rfl trivial ?_ | refine AWP.region hX coK_ok rfl id ?_ | refine AWP.region hX coK_ok rfl ⟨id, id⟩ ?_))
  exact AWP.ret ⟨.inr rfl, done1 rfl trivial rfl rfl rfl⟩
/-- how many parts -/
def chN (l : List Int) (n : Nat) : Nat := (l.length + n - 1) / n
def chAt (l : List Int) (n k : Nat) : List Int := (l.drop (k * n)).take n
theorem ch_iff {l : List Int} {n : Nat} (hn : 1 ≤ n) (k : Nat) : k < chN l n ↔ k * n < l.length := by
  unfold chN
  rw [← Nat.add_one_le_iff, Nat.le_div_iff_mul_le (by omega), Nat.add_mul]
  omega
theorem chAt_len (l : List Int) (n k : Nat) : (chAt l n k).length = min n (l.length - k * n) := by unfold chAt; rw [List.length_take, List.length_drop]
/-- one operation's value -/
theorem wpListIn_value {P : Program} {ops : Array Oper} {Q : Exit → Act → World → Prop} {a : Act} {w : World} {o : Oper} {rest : List Oper} {u : Value} (hg : o.guard = none) (hd : ∀ c, o.op ≠ .defer c) (hr : (execOp a.eval o).run P w = .ok (.value u) w) (h : wpListIn Fence.wide 0 P ops Q rest (a.put o.dst u) w) : wpListIn Fence.wide 0 P ops Q (o :: rest) a w :=
  wpListIn_plain hg fun K hK => wpIn_of_wp (ρ := none) hd (wp_run (u := u) (w' := w) hr (hK _ _ h))
theorem wpListIn_cut {P : Program} {ops : Array Oper} {Q : Exit → Act → World → Prop} {a : Act} {w : World} {l : List Oper} (k : Nat) (h : wpListIn Fence.wide 0 P ops Q (l.take k ++ l.drop k) a w) : wpListIn Fence.wide 0 P ops Q l a w := by rwa [List.take_append_drop] at h
abbrev chF (l gs os gn on_ : Nat) (xs : List Int) (n : Int) : List (Nat × V) := [(0, ⟨.lit, .func (.yield l) #[] #[]⟩), (1, ⟨.cptr gs os ints, xs⟩), (2, ⟨.cptr gn on_ i64, n⟩)]
/-- what the iterator reads lies as it lay -/
theorem ints_at {W0 w : World} {O' : Nat → Prop} {C : Nat → Prop} {gs os : Nat} {xs : List Int} {v : Value} (hl : gs < W0.heap.size) (hr : RepC W0 O' ints xs [v]) (hc : CellsAt W0 gs os [v]) (hC : C gs ∧ ∀ g, blockOf v = some g → C g) (hk : ∀ g, C g → w.heap[g]? = W0.heap[g]?) (hsz : W0.heap.size ≤ w.heap.size) {β : Nat → Value} :
    RepV w (fun _ => False) β (.cptr gs os ints) xs (.pointer (some ⟨gs, os, none⟩)) := by
  refine ⟨[v], rfl, Nat.lt_of_lt_of_le hl hsz, fun h => h, ?_, hc.keep (hk gs hC.1)⟩
  obtain ⟨v', e, h⟩ := hr
  cases e
  refine ⟨v, rfl, ?_⟩
  rcases h with h | ⟨g, off, c, vs, rfl, h2, h3, h4, h5, h6, h7, h8⟩
  · exact .inl h
  · refine .inr ⟨g, off, c, vs, rfl, h2, h3, h4, Nat.lt_of_lt_of_le h5 hsz, fun h => h, h7.mono fun x _ c => repC_flat i64 rfl x c, h8.keep (hk g (hC.2 g rfl))⟩
set_option maxHeartbeats 1000000 in
theorem ch_loop (l : Nat) (J : Nat → World → Prop) (W0 W : World) (O' C : Nat → Prop) (gs os gn on_ gv off cap : Nat) (xs : List Int) (n : Nat) (hn : 1 ≤ n) (hn2 : n ≤ 1440) (hx : xs.length ≤ 1000000) (hcap : xs.length ≤ cap) (hsW : W0.heap.size ≤ W.heap.size) (hCW : ∀ g, C g → W.heap[g]? = W0.heap[g]?)
    (hl : gs < W0.heap.size) (hr : RepC W0 O' ints xs [.slice (some ⟨gv, off, none⟩) xs.length cap]) (hc : CellsAt W0 gs os [.slice (some ⟨gv, off, none⟩) xs.length cap]) (hC : C gs ∧ C gv) (hln : gn < W0.heap.size) (hcn : CellsAt W0 gn on_ [.int .i64 n]) (hCn : C gn) (hClt : ∀ g, C g → g < W0.heap.size)
    (hJ : ∀ k A B, J k A → Below A.heap.size A B → J k B)
    (hY : ∀ k W1, J k W1 → k < chN xs n → W.heap.size ≤ W1.heap.size → YieldAt Fence.wide 0 Tryz.prog l #[.slice (some ⟨gv, off + k * n, none⟩) (chAt xs n k).length (chAt xs n k).length] W1 fun e W' => e = .returned (.bool true) ∧ J (k + 1) W' ∧ SameOn C W.heap.size W1 W')
    {β : Nat → Value} {a : Act} {w1 : World} (h1 : Sim w1 XT 31 ⟨(4, ⟨i64, (0 : Int)⟩) :: chF l gs os gn on_ xs n, [], 0⟩ β a w1) (hs1 : W.heap.size ≤ w1.heap.size) (hC1 : ∀ g, C g → w1.heap[g]? = W0.heap[g]?) (hj1 : J 0 w1) :
    (codeSeq 1 (Tryz.f48.body.getD .skip)).wpIn Fence.wide 0 Tryz.prog (fun e a w' => (e = .normal ∨ e = .ret) ∧ a.defers = [] ∧ J (chN xs n) w') a w1 := by
  have hXR : ∀ g, ¬ XT.R g := Ownr.plain_noR _ _
  refine wpIn_block ?_
  let F (k : Nat) : List (Nat × V) := (4, ⟨i64, ((k * n : Nat) : Int)⟩) :: chF l gs os gn on_ xs n
  have hm : ∀ k, bndB 0 (F k) = true := fun k => rfl
  have hCb : ∀ {w w' : World}, (∀ g, C g → w.heap[g]? = W0.heap[g]?) → W.heap.size ≤ w.heap.size → Below w.heap.size w w' → ∀ g, C g → w'.heap[g]? = W0.heap[g]? := fun h1 h2 h3 g hg => (h3.block g (by have := hClt g hg; omega)).trans (h1 g hg)
  refine wpIn_family (fun k a w' => (∃ β, Sim w' XT 31 ⟨F k, [], 0⟩ β a w') ∧ k ≤ chN xs n ∧ W.heap.size ≤ w'.heap.size ∧ (∀ g, C g → w'.heap[g]? = W0.heap[g]?) ∧ J k w') (fun k => chN xs n - k) 0 ⟨⟨β, h1.fit ⟨⟨V.congr (show (0 : Int) = ((0 * n : Nat) : Int) by simp), rfl, rfl, rfl, trivial⟩, trivial, rfl, rfl⟩ (Nat.zero_le _)⟩, Nat.zero_le _, hs1, hC1, hj1⟩ ?_
  rintro k a w2 ⟨⟨β, h⟩, hk, hs, hCw, hj⟩
  refine wpIn_seq (Go.wpIn_mono ((show AWP Tryz.prog w2 XT 31 _ _ (fun e σ => ((e = .exit 0 ∧ ¬ k * n < xs.length) ∨ (e = .normal ∧ k * n < xs.length)) ∧ Sub σ.F (F k) ∧ σ.E = []) from ?_) β a w2 h) ?_)
  · have hX := XT_ok w2
    (repeat (first | refine AWP.seq ?_ | refine AWP.skip ?_ | refine AWP.block ?_ | refine AWP.exit ?_)); refine AWP.region hX coK_ok rfl ?_ ?_
    · trivial
    refine AWP.cond rfl (fun hb => ?_) (fun hb => ?_)
    · have hb : decide (((k * n : Nat) : Int) < (xs.length : Nat)) = true := hb
      have hb := of_decide_eq_true hb
      exact AWP.skip ⟨.inr ⟨rfl, by omega⟩, ⟨rfl, rfl, rfl, rfl, trivial⟩, rfl⟩
    · have hb : decide (((k * n : Nat) : Int) < (xs.length : Nat)) = false := hb
      have hb := of_decide_eq_false hb
      exact AWP.exit ⟨.inl ⟨rfl, by omega⟩, ⟨rfl, rfl, rfl, rfl, trivial⟩, rfl⟩
  rintro e a3 w3 ⟨σ3, β3, h3, he, hF, hE⟩
  have hb3 : Below w2.heap.size w2 w3 := h3.bel.below hXR
  have hj3 : J k w3 := hJ k _ _ hj hb3
  have hs3 : W.heap.size ≤ w3.heap.size := Nat.le_trans hs hb3.size
  have hC3 := hCb hCw hs hb3
  rcases he with ⟨rfl, hge⟩ | ⟨rfl, hlt⟩
  · have : k = chN xs n := by
      have := (ch_iff (l := xs) hn k)
      omega
    simp only [Exit.then, Exit.inBlock, if_true]
    refine ⟨.inl trivial, h3.df, ?_⟩
    rw [← this]
    exact hj3
  have hkN := (ch_iff hn k).2 hlt
  have h4 := h3.rebase hE rfl hF (hm k)
  have hln : (chAt xs n k).length = min n (xs.length - k * n) := chAt_len xs n k
  refine wpIn_seq ?_
  refine Go.wpIn_mono (Q := fun e a w' => e = .normal ∧ (∃ β, Sim w' XT 31 ⟨F k, [], 0⟩ β a w') ∧ W.heap.size ≤ w'.heap.size ∧ (∀ g, C g → w'.heap[g]? = W0.heap[g]?) ∧ J (k + 1) w') ?_ ?_
  · refine wpIn_block ?_
    refine wpIn_seq (Go.wpIn_mono ((show AWP Tryz.prog w3 XT 31 _ _ (fun e σ => e = .normal ∧ Sub σ.F ((5, ⟨i64, (((chAt xs n k).length : Nat) : Int)⟩) :: F k) ∧ σ.E = []) from ?_) β3 a3 w3 h4) ?_)
    · have hX := XT_ok w3
      have q1 : (0 : Int) ≤ ((k * n : Nat) : Int) := Int.natCast_nonneg _
      have q2 : ((k * n : Nat) : Int) ≤ ((xs.length : Nat) : Int) := by omega
      (repeat (first | refine AWP.seq ?_ | refine AWP.skip ?_ | refine AWP.block ?_ | refine AWP.exit ?_)); refine AWP.draw dM hX coK_ok 7 (by kernel_rfl) rfl rfl ?_ ?_ ?_
      · repeat' (first | exact trivial | exact q1 | exact q2 | (refine ⟨?_, ?_⟩))
      · trivial
      refine ⟨rfl, ⟨V.congr ?_, rfl, rfl, rfl, rfl, trivial⟩, rfl⟩
      show min (n : Int) (((xs.drop ((k * n : Nat) : Int).toNat).length : Nat) : Int) = _
      rw [Int.toNat_natCast, List.length_drop, hln]
      omega
    rintro e a4 w4 ⟨σ4, β4, h4, rfl, hF4, hE4⟩
    have hb4 : Below w3.heap.size w3 w4 := h4.bel.below hXR
    have hs4 : W.heap.size ≤ w4.heap.size := Nat.le_trans hs3 hb4.size
    have hC4 := hCb hC3 hs3 hb4
    have hj4 : J k w4 := hJ k _ _ hj3 hb4
    have h5 := h4.rebase (F' := (5, ⟨i64, (((chAt xs n k).length : Nat) : Int)⟩) :: F k) hE4 rfl hF4 rfl
    refine wpIn_seq ?_
    refine Go.wpIn_mono (Q := fun e a w' => e = .normal ∧ (∃ β, Sim w' XT 31 ⟨(30, ⟨.bool, false⟩) :: F k, [], 0⟩ β a w') ∧ W.heap.size ≤ w'.heap.size ∧ (∀ g, C g → w'.heap[g]? = W0.heap[g]?) ∧ J (k + 1) w') ?_ ?_
    · refine wpIn_region_list ?_
      -- the function that takes the parts; the slice as it is
      refine wpListIn_move (ρ := none) (.inl rfl) rfl ?_
      have h6 := h5.put (Below.refl _ _) (v := ⟨.lit, .func (.yield l) #[] #[]⟩) (u := a4.eval (.tmp 0)) (h5.ops (.tmp 0)) (Nat.zero_le _) (d := 19) (by omega)
      generalize hv : Value.slice (some ⟨gv, off, none⟩) xs.length cap = v at hr hc
      have hcell : w4.cell? ⟨gs, os, none⟩ = some v := by
        have := (hc.keep (hC4 gs hC.1)) 0 v rfl
        simpa using this
      have hp1 : (a4.put (some 19) (a4.eval (.tmp 0))).eval (.tmp 1) = .pointer (some ⟨gs, os, none⟩) := by
        obtain ⟨_, e, _⟩ : ∃ cs, (a4.put (some 19) (a4.eval (.tmp 0))).eval (.tmp 1) = .pointer (some ⟨gs, os, none⟩) ∧ _ := h6.fr 1
        exact e
      refine wpListIn_value rfl (fun c e => by cases e) (u := v) ?_ ?_
      · have hld : (Go.loadVar 24 ⟨gs, os, none⟩).run Tryz.prog w4 = .ok v w4 := by
          have hlay : Lay Tryz.prog ints (.inl 24) := coT_ok.lay _ _ rfl
          unfold Go.loadVar
          simp only [Sem.run_bind, hlay.isAgg, Result.andThen_ok]
          simp [load, Sem.run, hcell, Ty.isAgg]
        unfold execOp
        simp only [hp1]
        simp [Instr.loadAt, Instr.sureAddr, hld]
      have h7 := h6.put (Below.refl _ _) (v := ⟨.lit, v⟩) (u := v) rfl (Nat.zero_le _) (d := 20) (by omega)
      refine wpListIn_cut 7 ?_
      have i1 : inR .i64 (((k * n : Nat) : Int) + (((chAt xs n k).length : Nat) : Int)) := inR_small (by omega) (by omega)
      refine wpListIn_append _ _ (wpListIn_of_wpList (ρ := none) not_lets _ rfl (aSeq_wp (K := coK) coK_ok (XT_ok w4) _ h7 rfl ?_ fun β8 a8 w8 h8 => ⟨rfl, ?_⟩))
      · repeat' (first | exact trivial | exact i1 | (refine ⟨?_, ?_⟩))
      have hb8 : Below w4.heap.size w4 w8 := h8.bel.below hXR
      have hs8 : W.heap.size ≤ w8.heap.size := Nat.le_trans hs4 hb8.size
      have hC8 := hCb hC4 hs4 hb8
      have iv : ∀ {t : Nat} {z : Int}, RepV w8 (fun _ => False) β8 i64 z (a8.eval (.tmp t)) → a8.eval (.tmp t) = .int .i64 z := fun h => by
        have h6 : [a8.eval (.tmp _)] = [.int .i64 _] := (RepD.scalar (t := i64) rfl).1 h
        exact List.head_eq_of_cons_eq h6
      have hO8 : OSet XT ([] : Owns) β8 = fun _ => False := OSet.nil
      have e20 : a8.eval (.tmp 20) = v := h8.ops (.tmp 20)
      have e21 : a8.eval (.tmp 21) = .int .i64 ((k * n : Nat) : Int) := iv (by have := h8.ops (.tmp 21); rwa [hO8] at this)
      have e24 : a8.eval (.tmp 24) = .int .i64 (((k * n : Nat) : Int) + (((chAt xs n k).length : Nat) : Int)) := iv (by have := h8.ops (.tmp 24); rwa [hO8] at this)
      have e27 : a8.eval (.tmp 27) = .int .i64 (((k * n : Nat) : Int) + (((chAt xs n k).length : Nat) : Int)) := iv (by have := h8.ops (.tmp 27); rwa [hO8] at this)
      refine wpListIn_value rfl (fun c e => by cases e) (u := .slice (some ⟨gv, off + k * n, none⟩) (chAt xs n k).length (chAt xs n k).length) ?_ ?_
      · unfold execOp
        simp only [e20, e21, e24, e27, ← hv]
        have hu : Tryz.prog.underlying 24 = some (.slice (Tryz.prog.elem 24)) := by kernel_rfl
        have hel : Tryz.prog.elem 24 = 3 := by kernel_rfl
        have hlay : Lay Tryz.prog i64 (.inl 3) := coT_ok.lay _ _ rfl
        have hsz : (sizeOf (Tryz.prog.elem 24)).run Tryz.prog w8 = .ok 1 w8 := by rw [hel]; exact hlay.sizeOf
        have hcl : 1 ≤ (chAt xs n k).length := by omega
        have hrun := run_slice_lhm (P := Tryz.prog) w8 24 (some ⟨gv, off, none⟩) xs.length cap hu .i64 .i64 .i64 ((k * n : Nat) : Int) (((k * n : Nat) : Int) + (((chAt xs n k).length : Nat) : Int)) (((k * n : Nat) : Int) + (((chAt xs n k).length : Nat) : Int)) (by omega) (by omega) (by omega) (by omega)
        rw [hsz] at hrun
        have e1 : (((k * n : Nat) : Int) + (((chAt xs n k).length : Nat) : Int)).toNat = k * n + (chAt xs n k).length := by omega
        rw [Int.toNat_natCast, e1] at hrun
        have hrun2 := (run_sliceAt_slice (P := Tryz.prog) w8 24 (.slice (some ⟨gv, off, none⟩) xs.length cap) (some (.int .i64 ((k * n : Nat) : Int))) (some (.int .i64 (((k * n : Nat) : Int) + (((chAt xs n k).length : Nat) : Int)))) (some (.int .i64 (((k * n : Nat) : Int) + (((chAt xs n k).length : Nat) : Int)))) hu).trans hrun
        have e2 : sliced (some ⟨gv, off, none⟩) (k * n) (k * n + (chAt xs n k).length) (k * n + (chAt xs n k).length) 1 = .slice (some ⟨gv, off + k * n, none⟩) (chAt xs n k).length (chAt xs n k).length := by
          unfold sliced
          rw [if_neg (by omega)]
          simp [Addr.add]
        rw [show ((Result.ok 1 w8 : Result Nat).andThen fun s w => .ok (sliced (some ⟨gv, off, none⟩) (k * n) (k * n + (chAt xs n k).length) (k * n + (chAt xs n k).length) s) w) = .ok (sliced (some ⟨gv, off, none⟩) (k * n) (k * n + (chAt xs n k).length) (k * n + (chAt xs n k).length) 1) w8 from rfl, e2] at hrun2
        refine run_v ?_
        simp only [Option.map_some, e21, e24, e27]
        exact hrun2
      have h9 := h8.put (Below.refl _ _) (v := ⟨.lit, .slice (some ⟨gv, off + k * n, none⟩) (chAt xs n k).length (chAt xs n k).length⟩) (u := .slice (some ⟨gv, off + k * n, none⟩) (chAt xs n k).length (chAt xs n k).length) rfl (Nat.zero_le _) (d := 28) (by omega)
      refine wpListIn_plain rfl fun K hK => ?_
      have hy := hY k w8 (hJ k _ _ hj4 hb8) hkN hs8
      have e28 : (a8.put (some 28) (.slice (some ⟨gv, off + k * n, none⟩) (chAt xs n k).length (chAt xs n k).length)).eval (.tmp 28) = .slice (some ⟨gv, off + k * n, none⟩) (chAt xs n k).length (chAt xs n k).length := h9.ops (.tmp 28)
      rw [show (#[.slice (some ⟨gv, off + k * n, none⟩) (chAt xs n k).length (chAt xs n k).length] : Array Value) = #[Operand.tmp 28].map (a8.put (some 28) (.slice (some ⟨gv, off + k * n, none⟩) (chAt xs n k).length (chAt xs n k).length)).eval from by simp only [List.map_toArray, List.map_cons, List.map_nil, e28]] at hy
      refine wpIn_yield rfl (h9.ops (.tmp 19)) (YieldAt.any hy) ?_
      rintro e w10 ⟨rfl, hj10, hk10⟩
      refine ⟨_, rfl, hK _ _ ?_⟩
      have hC10 : ∀ g, C g → w10.heap[g]? = W0.heap[g]? := fun g hg => (hk10.block g hg).trans (hC8 g hg)
      have hs10 : W.heap.size ≤ w10.heap.size := hk10.size
      subst hv
      have h10 := Sim.stay (w' := w10) (F' := F k) h9 rfl rfl ⟨rfl, rfl, rfl, rfl, trivial⟩ (hm k) (by
        intro p hp u hu
        simp only [F, List.mem_cons, List.not_mem_nil, or_false] at hp
        rcases hp with rfl | rfl | rfl | rfl
        · exact repV_flat (t := i64) rfl hu
        · exact hu
        · have h11 := ints_at (β := β8) hl hr hc ⟨hC.1, fun g hg => by cases hg; exact hC.2⟩ hC10 (Nat.le_trans hsW hs10)
          obtain ⟨_, e, _⟩ := hu
          subst e
          exact h11
        · exact cptr_stay rfl (hk10.block _ hCn) hu)
      have h11 := h10.put (Below.refl _ _) (v := ⟨.bool, true⟩) (u := .bool true) RepV.ofBool (Nat.zero_le _) (d := 29) (by omega)
      refine wpListIn_of_wpList (ρ := none) not_lets _ rfl (aSeq_wp (K := coK) coK_ok (XT_ok w10) _ h11 rfl trivial fun β12 a12 w12 h12 => ⟨rfl, ?_⟩)
      have hb12 : Below w10.heap.size w10 w12 := h12.bel.below hXR
      exact ⟨⟨β12, h12.rebase rfl rfl ⟨rfl, rfl, rfl, rfl, rfl, trivial⟩ rfl⟩, Nat.le_trans hs10 hb12.size, hCb hC10 hs10 hb12, hJ _ _ _ hj10 hb12⟩
    · rintro e a8 w8 ⟨rfl, ⟨β8, h8⟩, hs8, hC8, hj8⟩
      refine Go.wpIn_mono ((show AWP Tryz.prog w8 XT 31 _ _ (fun e σ => e = .normal ∧ Sub σ.F (F k) ∧ σ.E = []) from ?_) β8 a8 w8 h8) ?_
      · refine AWP.cond rfl (fun hb => by cases hb) (fun _ => AWP.skip ⟨rfl, ⟨rfl, rfl, rfl, rfl, trivial⟩, rfl⟩)
      · rintro e a9 w9 ⟨σ9, β9, h9, rfl, hF9, hE9⟩
        have hb9 : Below w8.heap.size w8 w9 := h9.bel.below hXR
        exact ⟨rfl, ⟨β9, h9.rebase hE9 rfl hF9 (hm k)⟩, Nat.le_trans hs8 hb9.size, hCb hC8 hs8 hb9, hJ _ _ _ hj8 hb9⟩
  · rintro e a8 w8 ⟨rfl, ⟨β8, h8⟩, hs8, hC8, hj8⟩
    refine Go.wpIn_mono ((show AWP Tryz.prog w8 XT 31 _ _ (fun e σ => e = .normal ∧ Sub σ.F (F (k + 1)) ∧ σ.E = []) from ?_) β8 a8 w8 h8) ?_
    · have hX := XT_ok w8
      (repeat (first | refine AWP.seq ?_ | refine AWP.skip ?_ | refine AWP.block ?_ | refine AWP.exit ?_)); refine AWP.region hX coK_ok rfl ?_ ?_
      · exact inR_small (by show -9223372036854775808 ≤ ((k * n : Nat) : Int) + (n : Int); omega) (by show ((k * n : Nat) : Int) + (n : Int) ≤ 9223372036854775807; omega)
      exact ⟨rfl, ⟨V.congr (by show ((k * n : Nat) : Int) + (n : Int) = (((k + 1) * n : Nat) : Int); rw [Nat.add_mul]; omega), rfl, rfl, rfl, trivial⟩, rfl⟩
    · rintro e a9 w9 ⟨σ9, β9, h9, rfl, hF9, hE9⟩
      have hb9 : Below w8.heap.size w8 w9 := h9.bel.below hXR
      exact ⟨k + 1, by omega, ⟨β9, h9.rebase hE9 rfl hF9 (hm (k + 1))⟩, by omega, Nat.le_trans hs8 hb9.size, hCb hC8 hs8 hb9, hJ _ _ _ hj8 hb9⟩
/-- the iterator hands out the parts -/
theorem ch_seq (xs : List Int) (n : Nat) (hn : 1 ≤ n) (hn2 : n ≤ 1440) (hx : xs.length ≤ 1000000) (hne : xs ≠ []) (W0 : World) (us : List Value) (O' : Nat → Prop) (hcap : RepCap W0 O' capC (xs, (n : Int), ()) us) :
    ∃ (C : Nat → Prop) (ts : List Value), ts.length = chN xs n ∧ (∀ (k : Nat) (v : Value), ts[k]? = some v → ∀ (w' : World) (O'' : Nat → Prop) β', W0.heap.size ≤ w'.heap.size → (∀ g, C g → w'.heap[g]? = W0.heap[g]? ∧ ¬ O'' g) → RepV w' O'' β' ints (chAt xs n k) v) ∧ (∀ g, C g → g < W0.heap.size ∧ ¬ O' g) ∧ SeqVal Tryz.prog 0 48 us.toArray C ts W0 := by
  obtain ⟨u1, r1, rfl, ⟨gs, os, cs1, rfl, hl, hno, hr, hc⟩, u2, r2, rfl, ⟨gn, on_, cs2, rfl, hln, hnn, hr2, hcn⟩, rfl⟩ := hcap
  obtain ⟨v, rfl, hv⟩ := hr
  rcases hv with ⟨h, _⟩ | ⟨gv, off, cap, vs, rfl, _, h3, h4, h5, h6, h7, h8⟩
  · exact absurd h hne
  have hcs2 : cs2 = [.int .i64 (n : Int)] := hr2
  subst hcs2
  have hr : RepC W0 O' ints xs [.slice (some ⟨gv, off, none⟩) xs.length cap] := ⟨_, rfl, .inr ⟨gv, off, cap, vs, rfl, hne, h3, h4, h5, h6, h7, h8⟩⟩
  have h3' : xs.length ≤ cap := h3
  have hlen1 : ∀ (x : Int) c, RepC W0 O' i64 x c → c.length = 1 := fun x c h => RepC.len i64 x c h
  have hltn : ∀ k, k < chN xs n → k * n < xs.length := fun k hk => (ch_iff hn k).1 hk
  refine ⟨fun g => g = gs ∨ g = gn ∨ g = gv, (List.range (chN xs n)).map fun (k : Nat) => .slice (some ⟨gv, off + k * n, none⟩) (chAt xs n k).length (chAt xs n k).length, by simp, fun k v hv w' O'' β' hsz hC => ?_, fun g hg => by rcases hg with rfl | rfl | rfl <;> exact ⟨by assumption, by assumption⟩, ?_⟩
  · rw [List.getElem?_map] at hv
    obtain ⟨k', h1, rfl⟩ := Option.map_eq_some_iff.1 hv
    have hk' : k' = k ∧ k < chN xs n := by
      obtain ⟨h3, h4⟩ := (List.getElem?_eq_some_iff.1 h1)
      rw [List.getElem_range] at h4
      exact ⟨h4.symm, by simpa using h3⟩
    obtain ⟨rfl, hkN⟩ := hk'
    have hkl := hltn k' hkN
    have hcl := chAt_len xs n k'
    have hCv := hC gv (.inr (.inr rfl))
    refine (RepD.scalar (t := ints) rfl).2 ⟨_, rfl, .inr ⟨gv, off + k' * n, (chAt xs n k').length, (vs.drop (k' * n)).take n, rfl, ?_, Nat.le_refl _, by unfold maxLen; omega, Nat.lt_of_lt_of_le h5 hsz, hCv.2, ?_, ?_⟩⟩
    · intro h
      rw [h] at hcl
      simp at hcl
      omega
    · have h9 := (h7.drop hlen1 (k' * n)).take (s := 1) hlen1 n
      rw [Nat.mul_one, Nat.mul_one] at h9
      exact h9.mono fun x _ c h => repC_flat i64 rfl x c h
    · exact ((h8.drop (k' * n)).take n).keep hCv.1
  intro l J W hW hJ hY h0
  refine callsIn_of_wp Tryz.func48 rfl trivial ?_ rfl
  have hX := XT_ok W
  have hCW : ∀ g, (g = gs ∨ g = gn ∨ g = gv) → W.heap[g]? = W0.heap[g]? := fun g hg => by rcases hg with rfl | rfl | rfl <;> exact hW.block _ (by assumption)
  have hsim : Sim W XT 31 ⟨chF l gs os gn on_ xs n, [], 0⟩ (fun _ => undef)
      { tmps := (#[.func (.yield l) #[] #[]] ++ [Value.pointer (some ⟨gs, os, none⟩), .pointer (some ⟨gn, on_, none⟩)].toArray) ++ Array.replicate (Tryz.f48.ntmps - (#[.func (.yield l) #[] #[]] ++ [Value.pointer (some ⟨gs, os, none⟩), .pointer (some ⟨gn, on_, none⟩)].toArray : Array Value).size) undef, defers := [] } W := by
    refine Sim.fresh rfl (by simp [Tryz.ntmps48]) rfl ?_ rfl
    refine rep_cons (by rw [getD_app (by simp)]; rfl) (rep_cons ?_ (rep_cons ?_ rep_nil))
    · rw [getD_app (by simp)]
      exact ints_at (C := fun g => g = gs ∨ g = gn ∨ g = gv) hl hr hc ⟨.inl rfl, fun g hg => by cases hg; exact .inr (.inr rfl)⟩ hCW hW.size
    · rw [getD_app (by simp)]
      exact ⟨_, rfl, Nat.lt_of_lt_of_le hln hW.size, fun h => h, rfl, hcn.keep (hW.block _ hln)⟩
  suffices h : RWP Tryz.prog W XT 31 (Tryz.f48.body.getD .skip) ⟨chF l gs os gn on_ xs n, [], 0⟩ (bodyPost Tryz.prog Tryz.f48 fun e W' => (∃ v, e = .returned v) ∧ J ((List.range (chN xs n)).map fun (k : Nat) => (.slice (some ⟨gv, off + k * n, none⟩) (chAt xs n k).length (chAt xs n k).length : Value)).length W') from
    (wpIn_wide (n := 0)).2 ((wpIn_wide (n := 0)).1 (h _ _ _ hsim))
  refine RWP.seq ?_
  (repeat (first | refine AWP.seq ?_ | refine AWP.skip ?_ | refine AWP.block ?_ | refine AWP.exit ?_)); refine AWP.region hX coK_ok rfl ?_ ?_
  · trivial
  intro β1 a1 w1 h1
  have hb1' : Below W.heap.size W w1 := h1.bel.below (Ownr.plain_noR _ _)
  have h2 := h1.rebase (F' := (4, ⟨i64, (0 : Int)⟩) :: chF l gs os gn on_ xs n) rfl rfl ⟨rfl, rfl, rfl, rfl, trivial⟩ rfl
  have hClt : ∀ g, (g = gs ∨ g = gn ∨ g = gv) → g < W0.heap.size := fun g hg => by rcases hg with rfl | rfl | rfl <;> assumption
  have hC1 : ∀ g, (g = gs ∨ g = gn ∨ g = gv) → w1.heap[g]? = W0.heap[g]? := fun g hg => (hb1'.block g (Nat.lt_of_lt_of_le (hClt g hg) hW.size)).trans (hCW g hg)
  refine Go.wpIn_mono (ch_loop l J W0 W O' (fun g => g = gs ∨ g = gn ∨ g = gv) gs os gn on_ gv off cap xs n hn hn2 hx h3' hW.size hCW hl hr hc ⟨.inl rfl, .inr (.inr rfl)⟩ hln hcn (.inr (.inl rfl)) hClt hJ (fun k W1 hj hk hs => ?_) h2 hb1'.size hC1 (hJ 0 _ _ h0 hb1')) ?_
  · refine YieldAt.any (hY k (.slice (some ⟨gv, off + k * n, none⟩) (chAt xs n k).length (chAt xs n k).length) W1 hj ?_ hs)
    rw [List.getElem?_map, List.getElem?_range hk]
    rfl
  · rintro e a2 w2 ⟨he, hd, hj⟩
    have hlen : ((List.range (chN xs n)).map fun (k : Nat) => (.slice (some ⟨gv, off + k * n, none⟩) (chAt xs n k).length (chAt xs n k).length : Value)).length = chN xs n := by simp
    have hres : (results Tryz.f48 a2.tmps).run Tryz.prog w2 = .ok (.tuple #[]) w2 := results_none rfl _ _ _
    rcases he with rfl | rfl
    · exact ⟨hd, _, hres, ⟨_, rfl⟩, by rw [hlen]; exact hj⟩
    · exact ⟨hd, _, hres, ⟨_, rfl⟩, by rw [hlen]; exact hj⟩
end Go.Proofs.YtbbeldmcdjjnbaaGreatDoor
