/-
  Package digest, fourth part: the blocks of the padded concatenation, handed out one by one.
-/
import Derived.Test.YthhphphdbgkdgaaDoorDPrgC
import Derived.Test.YthhphphdbgkdgaaDoorAbsMore
namespace Go.Proofs.YthhphphdbgkdgaaDoor
open Go Go.RowKit
set_option linter.unusedSimpArgs false
set_option linter.unusedVariables false
set_option maxRecDepth 100000
/-- the j-th block of a message -/
def blk (m : List UInt8) (j : Nat) : List UInt8 := (m.drop (64 * j)).take 64
def blksOf (m : List UInt8) : List (List UInt8) := (List.range (m.length / 64)).map (blk m)
theorem blocks_call (A : Option Addr) (n c : Nat) (w : World) : Calls Tryd.prog 21 #[.slice A n c] w fun e w' => e = .returned (.func (.func 23) #[] #[.pointer (some ⟨w.heap.size, 0, none⟩)]) ∧ w' = w.alloc (.cells #[.slice A n c] 22) := by
  go_enter Tryd.func21, Tryd.ntmps21
  go_wp2
  go_ret
  exact ⟨rfl, rfl⟩
theorem yK_ok : KnOk Tryd.prog (fun _ => True) dK := ⟨dT_ok, dU_ok, CsOk.nil, fun _ _ _ _ => trivial, RsOk.nil⟩
theorem flatten_take_succ (ps : List (List UInt8)) (k : Nat) (h : k < ps.length) : (ps.take (k + 1)).flatten = (ps.take k).flatten ++ ps.getD k [] := by
  rw [List.take_succ_eq_append_getElem h, List.flatten_append]
  simp [List.getD, h]
theorem flatten_take_le (ps : List (List UInt8)) (k : Nat) : (ps.take k).flatten.length ≤ ps.flatten.length := by
  rw [← List.take_append_drop k ps, List.flatten_append]
  simp
theorem flatten_getD_le (ps : List (List UInt8)) (k : Nat) (h : k < ps.length) : (ps.take k).flatten.length + (ps.getD k []).length ≤ ps.flatten.length := by
  have := flatten_take_le ps (k + 1)
  rw [flatten_take_succ _ _ h] at this
  simpa using this
abbrev yLit (l : Nat) : V := ⟨.lit, .func (.yield l) #[] #[]⟩
def lastOf : Code → Code
  | .seq _ y => lastOf y
  | c => c
theorem blk_some {p : List UInt8} {k : Nat} (hp : p.length % 64 = 0) (hk : 64 * k < p.length) : (blksOf p)[k]? = some ((p.drop (64 * k)).take 64) := by
  unfold blksOf
  rw [List.getElem?_map, List.getElem?_range (by omega)]
  rfl
theorem blocks1_loop (l : Nat) (J : Nat → World → Prop) (W : World) (p : List UInt8) (hp : p.length % 64 = 0) (hp2 : p.length ≤ 2000200)
    (hJ : ∀ k A C, J k A → Below W.heap.size A C → J k C)
    (hY : ∀ k x y W1, J k W1 → (blksOf p)[k]? = some y → W.heap.size ≤ W1.heap.size → RepD W1 (fun g => g < W.heap.size) bs y x → YieldAt Fence.wide 0 Tryd.prog l #[x] W1 fun e W' => e = .returned (.bool true) ∧ J (k + 1) W' ∧ KeptFrom W.heap.size W1 W')
    {β : Nat → Value} {a : Act} {w1 : World} (h1 : Sim w1 (Ownr.plain (fun _ => True) (fun h => h < W.heap.size)) 53 ⟨[(0, yLit l), (3, ⟨bs, p⟩)], [], 0⟩ β a w1) (hs1 : W.heap.size ≤ w1.heap.size) (hj1 : J 0 w1) :
    (lastOf (Tryd.f23.body.getD .skip)).wpIn Fence.wide 0 Tryd.prog (fun e a w => e = .normal ∧ a.defers = [] ∧ J (blksOf p).length w) a w1 := by
  let X := Ownr.plain (fun _ => True) (fun h => h < W.heap.size)
  have hX : ∀ w : World, W.heap.size ≤ w.heap.size → X.Ok w := fun w hw => ⟨fun g h => ⟨Nat.lt_of_lt_of_le h hw, Ownr.plain_noR _ _ g⟩, fun g h => (Ownr.plain_noR _ _ g h).elim, fun _ _ => trivial⟩
  have hXR : ∀ g, ¬ X.R g := Ownr.plain_noR _ _
  refine wpIn_block ?_
  refine wpIn_family (fun k a w => (∃ β, Sim w X 53 ⟨[(0, yLit l), (3, ⟨bs, p.drop (64 * k)⟩)], [], 0⟩ β a w) ∧ 64 * k ≤ p.length ∧ W.heap.size ≤ w.heap.size ∧ J k w) (fun k => p.length - 64 * k) 0 ⟨⟨β, h1⟩, by omega, hs1, hj1⟩ ?_
  rintro k a w ⟨⟨β, h⟩, hk, hs, hj⟩
  refine wpIn_seq (Go.wpIn_mono ((show AWP Tryd.prog w X 53 _ _ (fun e σ => ((e = .exit 6 ∧ ¬ 64 * k < p.length) ∨ (e = .normal ∧ 64 * k < p.length)) ∧ Sub σ.F [(0, yLit l), (3, ⟨bs, p.drop (64 * k)⟩)] ∧ σ.E = []) from ?_) β a w h) ?_)
  · have hX := hX w hs
    (repeat (first | refine AWP.seq ?_ | refine AWP.skip ?_ | refine AWP.label ?_ | refine AWP.exit ?_ | refine AWP.block ?_ | refine AWP.region hX yK_ok rfl trivial ?_ | refine AWP.region hX yK_ok rfl id ?_ | refine AWP.region hX yK_ok rfl ⟨id, id⟩ ?_))
    refine AWP.cond rfl (fun hb => ?_) (fun hb => ?_)
    · have hb : decide (((p.drop (64 * k)).length : Int) > 0) = true := hb
      simp at hb
      exact AWP.skip ⟨.inr ⟨rfl, by omega⟩, ⟨rfl, rfl, trivial⟩, rfl⟩
    · have hb : decide (((p.drop (64 * k)).length : Int) > 0) = false := hb
      simp at hb
      exact AWP.exit ⟨.inl ⟨rfl, by omega⟩, ⟨rfl, rfl, trivial⟩, rfl⟩
  rintro e a2 w2 ⟨σ2, β2, h2, he, hF, hE⟩
  have hb2 : Below w.heap.size w w2 := h2.bel.below hXR
  have hj2 : J k w2 := hJ k _ _ hj (hb2.mono hs)
  have hs2 : W.heap.size ≤ w2.heap.size := Nat.le_trans hs hb2.size
  rcases he with ⟨rfl, hge⟩ | ⟨rfl, hlt⟩
  · have : k = p.length / 64 := by omega
    simp only [Exit.then, Exit.inBlock, if_true]
    refine ⟨trivial, h2.df, ?_⟩
    have hl : (blksOf p).length = k := by simp [blksOf, this]
    rw [hl]
    exact hj2
  have h3 := h2.rebase hE rfl hF rfl
  refine wpIn_seq ?_
  refine Go.wpIn_mono (Q := fun e a w => e = .normal ∧ (∃ β, Sim w X 53 ⟨[(0, yLit l), (3, ⟨bs, p.drop (64 * k)⟩)], [], 0⟩ β a w) ∧ W.heap.size ≤ w.heap.size ∧ J (k + 1) w) ?_ ?_
  · refine wpIn_block ?_
    refine wpIn_seq ?_
    refine Go.wpIn_mono (Q := fun e a w => e = .normal ∧ (∃ β, Sim w X 53 ⟨[(52, ⟨.bool, false⟩), (0, yLit l), (3, ⟨bs, p.drop (64 * k)⟩)], [], 0⟩ β a w) ∧ W.heap.size ≤ w.heap.size ∧ J (k + 1) w) ?_ ?_
    · refine wpIn_region_list ?_
      rw [← List.take_append_drop 3 (Array.toList _)]
      refine wpListIn_append _ _ (wpListIn_of_wpList (ρ := none) not_lets _ rfl (aSeq_wp (K := dK) yK_ok (hX w2 hs2) _ h3 rfl ?_ fun β4 a4 w4 h4 => ⟨rfl, ?_⟩))
      · refine ⟨by omega, ?_⟩
        show (64 : Int) ≤ ((p.drop (64 * k)).length : Int)
        simp; omega
      have hb4 : Below w2.heap.size w2 w4 := h4.bel.below hXR
      have hs4 : W.heap.size ≤ w4.heap.size := Nat.le_trans hs2 hb4.size
      refine wpListIn_plain rfl fun K hK => ?_
      have hr := h4.ops (.tmp 50)
      rw [show OSet X _ β4 = _ from OSet.nil] at hr
      have hy := hY k _ ((p.drop (64 * k)).take 64) w4 (hJ k _ _ hj2 (hb4.mono hs2)) (blk_some hp hlt) hs4 hr
      rw [show (#[a4.eval (.tmp 50)] : Array Value) = #[Operand.tmp 50].map a4.eval from by simp] at hy
      refine wpIn_yield rfl (h4.ops (.tmp 48)) (YieldAt.any hy) ?_
      rintro e w5 ⟨rfl, hj5, hk5⟩
      refine ⟨_, rfl, hK _ _ ?_⟩
      have h5 := Sim.round (B := W.heap.size) (F' := [(0, yLit l), (3, ⟨bs, p.drop (64 * k)⟩)]) h4 rfl (fun g hg => hg) rfl hk5 ⟨rfl, rfl, trivial⟩ rfl
      have h6 := h5.put (Below.refl _ _) (v := ⟨.bool, true⟩) (u := .bool true) RepV.ofBool (Nat.zero_le _) (d := 51) (by omega)
      have hs5 : W.heap.size ≤ w5.heap.size := Nat.le_trans hs4 hk5.size
      refine wpListIn_of_wpList (ρ := none) not_lets _ rfl (aSeq_wp (K := dK) yK_ok (hX w5 hs5) _ h6 rfl trivial fun β7 a7 w7 h7 => ⟨rfl, ?_⟩)
      have hb7 : Below w5.heap.size w5 w7 := h7.bel.below hXR
      exact ⟨⟨β7, h7.rebase rfl rfl ⟨rfl, rfl, rfl, trivial⟩ rfl⟩, Nat.le_trans hs5 hb7.size, hJ _ _ _ hj5 (hb7.mono hs5)⟩
    · rintro e a8 w8 ⟨rfl, ⟨β8, h8⟩, hs8, hj8⟩
      refine Go.wpIn_mono ((show AWP Tryd.prog w8 X 53 _ _ (fun e σ => e = .normal ∧ Sub σ.F [(0, yLit l), (3, ⟨bs, p.drop (64 * k)⟩)] ∧ σ.E = []) from ?_) β8 a8 w8 h8) ?_
      · refine AWP.cond rfl (fun hb => by cases hb) (fun _ => AWP.skip ⟨rfl, ⟨rfl, rfl, trivial⟩, rfl⟩)
      · rintro e a9 w9 ⟨σ9, β9, h9, rfl, hF9, hE9⟩
        have hb9 : Below w8.heap.size w8 w9 := h9.bel.below hXR
        exact ⟨rfl, ⟨β9, h9.rebase hE9 rfl hF9 rfl⟩, Nat.le_trans hs8 hb9.size, hJ _ _ _ hj8 (hb9.mono hs8)⟩
  · rintro e a8 w8 ⟨rfl, ⟨β8, h8⟩, hs8, hj8⟩
    refine Go.wpIn_mono ((show AWP Tryd.prog w8 X 53 _ _ (fun e σ => e = .normal ∧ Sub σ.F [(0, yLit l), (3, ⟨bs, p.drop (64 * (k + 1))⟩)] ∧ σ.E = []) from ?_) β8 a8 w8 h8) ?_
    · have hX := hX w8 hs8
      (repeat (first | refine AWP.seq ?_ | refine AWP.skip ?_ | refine AWP.block ?_ | refine AWP.exit ?_)); refine AWP.region hX yK_ok rfl ?_ ?_
      · refine ⟨by omega, ?_⟩
        show (64 : Int) ≤ ((p.drop (64 * k)).length : Int)
        simp; omega
      refine ⟨rfl, ⟨rfl, V.congr ?_, trivial⟩, rfl⟩
      show (p.drop (64 * k)).drop 64 = p.drop (64 * (k + 1))
      rw [List.drop_drop]
      congr 1
    · rintro e a9 w9 ⟨σ9, β9, h9, rfl, hF9, hE9⟩
      have hb9 : Below w8.heap.size w8 w9 := h9.bel.below hXR
      exact ⟨k + 1, by omega, ⟨β9, h9.rebase hE9 rfl hF9 rfl⟩, by omega, Nat.le_trans hs8 hb9.size, hJ _ _ _ hj8 (hb9.mono hs8)⟩
set_option maxHeartbeats 400000 in
theorem blocks1_seq (g : Nat) (parts : List (List UInt8)) (v : Value) (w : World) (m : Nat) (hg : w.heap[g]? = some (.cells #[v] 22 (0, 0))) (hv : RepD w (fun _ => False) (.slice bs) parts v) (hlen : parts.flatten.length ≤ 2000000) :
    SeqBlk Tryd.prog m 23 #[.pointer (some ⟨g, 0, none⟩)] bs (blksOf (pad parts.flatten)) w := by
  intro l J W hW hJ hY h0
  refine callsIn_of_wp Tryd.func23 rfl trivial ?_ rfl
  have hgl : g < w.heap.size := (Array.getElem?_eq_some_iff.1 hg).1
  have hgW : W.heap[g]? = some (.cells #[v] 22 (0, 0)) := (hW.block g hgl).trans hg
  have hvW : RepD W (fun _ => False) (.slice bs) parts v := hv.keep (.of_below hW fun _ _ h => h)
  let X := Ownr.plain (fun _ => True) (fun _ => False)
  have hX : X.Ok W := ⟨fun g h => False.elim h, fun g h => (Ownr.plain_noR _ _ g h).elim, fun _ _ => trivial⟩
  have hsim : Sim W X 53 ⟨[(0, yLit l), (1, ⟨.vptr (.slice bs), parts⟩)], [], 0⟩ (fun _ => undef)
      { tmps := (#[.func (.yield l) #[] #[]] ++ #[.pointer (some ⟨g, 0, none⟩)]) ++ Array.replicate (Tryd.f23.ntmps - (#[.func (.yield l) #[] #[]] ++ #[.pointer (some ⟨g, 0, none⟩)] : Array Value).size) undef, defers := [] } W := by
    refine Sim.fresh rfl (by simp [Tryd.ntmps23]) rfl (rep_cons (by rw [getD_app (by simp)]; rfl) (rep_cons ⟨g, 0, [v], by rw [getD_app (by simp)]; rfl, Nat.lt_of_lt_of_le hgl hW.size, fun h => h, (RepD.scalar rfl).1 hvW, ?_⟩ rep_nil)) rfl
    intro j u hu
    match j, hu with
    | 0, hu =>
      cases hu
      unfold World.cell?
      rw [hgW]
      rfl
    | j + 1, hu => simp at hu
  suffices h : RWP Tryd.prog W X 53 (Tryd.f23.body.getD .skip) ⟨[(0, yLit l), (1, ⟨.vptr (.slice bs), parts⟩)], [], 0⟩ (bodyPost Tryd.prog Tryd.f23 fun e W' => (∃ v, e = .returned v) ∧ J (blksOf (pad parts.flatten)).length W') from
    (wpIn_wide (n := m)).2 ((wpIn_wide (n := 0)).1 (h _ _ _ hsim))
  refine RWP.seq ?_
  (repeat (first | refine AWP.seq ?_ | refine AWP.skip ?_ | refine AWP.block ?_ | refine AWP.exit ?_)); refine AWP.region hX yK_ok rfl ?_ ?_
  · trivial
  refine RWP.seq ?_
  refine AWP.nilBuf hX 3 5 u8 rfl rfl rfl ?_
  (repeat (first | refine AWP.seq ?_ | refine AWP.skip ?_ | refine AWP.label ?_ | refine AWP.exit ?_ | refine AWP.block ?_ | refine AWP.region hX yK_ok rfl trivial ?_ | refine AWP.region hX yK_ok rfl id ?_ | refine AWP.region hX yK_ok rfl ⟨id, id⟩ ?_))
  refine AWP.loop (ι := Nat) (fun k => ⟨[(0, yLit l), (3, ⟨.obuf u8, (0 : Nat)⟩), (8, ⟨.slice bs, parts⟩), (9, ⟨i64, (parts.length : Int)⟩), (10, ⟨i64, (k : Int)⟩)], [(0, some (.buf 5 u8 (parts.take k).flatten))], 1⟩) (fun k => k ≤ parts.length) (fun k => parts.length - k) 0 (by omega) ⟨⟨rfl, rfl, rfl, rfl, rfl, trivial⟩, ⟨rfl, trivial⟩, rfl, rfl⟩ ?_
  intro k hk
  (repeat (first | refine AWP.seq ?_ | refine AWP.skip ?_ | refine AWP.label ?_ | refine AWP.exit ?_ | refine AWP.block ?_ | refine AWP.region hX yK_ok rfl trivial ?_ | refine AWP.region hX yK_ok rfl id ?_ | refine AWP.region hX yK_ok rfl ⟨id, id⟩ ?_))
  refine AWP.len 8 rfl fun hml => ?_
  unfold maxLen at hml
  refine AWP.cond rfl (fun hb => ?_) (fun hb => ?_)
  · simp at hb
    (repeat (first | refine AWP.seq ?_ | refine AWP.skip ?_ | refine AWP.block ?_ | refine AWP.exit ?_)); refine AWP.region hX yK_ok rfl ?_ ?_
    · (simp only [allP, inR64]; (and_intros <;> first | omega | (simp; done) | (simp; omega)))
    (repeat (first | refine AWP.seq ?_ | refine AWP.skip ?_ | refine AWP.block ?_ | refine AWP.exit ?_)); refine AWP.region hX yK_ok rfl ?_ ?_
    · have := flatten_getD_le parts k hb
      show List.length (parts.take k).flatten + List.length (parts.getD (k : Int).toNat []) ≤ 1000000000
      simp only [Int.toNat_natCast]
      omega
    (repeat (first | refine AWP.seq ?_ | refine AWP.skip ?_ | refine AWP.block ?_ | refine AWP.exit ?_)); refine AWP.region hX yK_ok rfl ?_ ?_
    · exact inR_succ (by omega)
    refine ⟨k + 1, by omega, by omega, ⟨rfl, rfl, rfl, rfl, vSucc _, trivial⟩, ⟨bufEq ?_, trivial⟩, rfl, rfl⟩
    rw [flatten_take_succ _ _ hb]
    rfl
  simp at hb
  have : k = parts.length := by omega
  subst this
  rw [List.take_length]
  generalize parts.flatten = msg at *
  (repeat (first | refine AWP.seq ?_ | refine AWP.skip ?_ | refine AWP.label ?_ | refine AWP.exit ?_ | refine AWP.block ?_ | refine AWP.region hX yK_ok rfl trivial ?_ | refine AWP.region hX yK_ok rfl id ?_ | refine AWP.region hX yK_ok rfl ⟨id, id⟩ ?_))
  refine RWP.seq ?_
  (repeat (first | refine AWP.seq ?_ | refine AWP.skip ?_ | refine AWP.block ?_ | refine AWP.exit ?_)); refine AWP.region hX yK_ok rfl ?_ ?_
  · trivial
  refine RWP.seq ?_
  (repeat (first | refine AWP.seq ?_ | refine AWP.skip ?_ | refine AWP.block ?_ | refine AWP.exit ?_)); refine AWP.region hX yK_ok rfl ?_ ?_
  · show List.length msg + List.length [(128 : UInt8)] ≤ 1000000000
    simp; omega
  have hz : zerosFor msg.length < 64 := by unfold zerosFor; omega
  refine RWP.seq ?_
  (repeat (first | refine AWP.seq ?_ | refine AWP.skip ?_ | refine AWP.label ?_ | refine AWP.exit ?_ | refine AWP.block ?_ | refine AWP.region hX yK_ok rfl trivial ?_ | refine AWP.region hX yK_ok rfl id ?_ | refine AWP.region hX yK_ok rfl ⟨id, id⟩ ?_))
  refine AWP.loop (ι := Nat) (fun k => ⟨[(0, yLit l), (3, ⟨.obuf u8, (0 : Nat)⟩), (6, ⟨.int .u64, BitVec.ofNat 64 8 * BitVec.ofInt 64 (msg.length : Int)⟩)], [(0, some (.buf 5 u8 (msg ++ [0x80] ++ List.replicate k 0)))], 5⟩) (fun k => k ≤ zerosFor msg.length) (fun k => zerosFor msg.length - k) 0 (by omega) ⟨⟨rfl, rfl, rfl, trivial⟩, ⟨bufEq (by simp), trivial⟩, rfl, rfl⟩ ?_
  intro k hk
  (repeat (first | refine AWP.seq ?_ | refine AWP.skip ?_ | refine AWP.block ?_ | refine AWP.exit ?_)); refine AWP.region hX yK_ok rfl ?_ ?_
  · (simp only [allP, inR64]; (and_intros <;> first | omega | (simp; done) | (simp; omega)))
  have hlen2 : (msg ++ [0x80] ++ List.replicate k 0).length = msg.length + 1 + k := by simp; omega
  refine AWP.cond rfl (fun hb => ?_) (fun hb => ?_)
  · have hb : (((msg ++ [0x80] ++ List.replicate k 0).length : Int).tmod 64 != 56) = true := hb
    rw [tmod64, hlen2] at hb
    simp at hb
    have hlt : k < zerosFor msg.length := by
      rcases Nat.lt_or_ge k (zerosFor msg.length) with h | h
      · exact h
      · exfalso; apply hb; have : k = zerosFor msg.length := by omega
        rw [this]; unfold zerosFor; omega
    (repeat (first | refine AWP.seq ?_ | refine AWP.skip ?_ | refine AWP.block ?_ | refine AWP.exit ?_)); refine AWP.region hX yK_ok rfl ?_ ?_
    · show List.length (msg ++ [0x80] ++ List.replicate k 0) + List.length [(0 : UInt8)] ≤ 1000000000
      rw [hlen2]; simp; omega
    refine ⟨k + 1, by omega, by omega, ⟨rfl, rfl, rfl, trivial⟩, ⟨bufEq ?_, trivial⟩, rfl, rfl⟩
    show msg ++ [0x80] ++ List.replicate k 0 ++ [0] = _
    rw [List.replicate_succ', List.append_assoc]
  have hb : (((msg ++ [0x80] ++ List.replicate k 0).length : Int).tmod 64 != 56) = false := hb
  rw [tmod64, hlen2] at hb
  simp at hb
  have : k = zerosFor msg.length := by unfold zerosFor at *; omega
  subst this
  (repeat (first | refine AWP.seq ?_ | refine AWP.skip ?_ | refine AWP.label ?_ | refine AWP.exit ?_ | refine AWP.block ?_ | refine AWP.region hX yK_ok rfl trivial ?_ | refine AWP.region hX yK_ok rfl id ?_ | refine AWP.region hX yK_ok rfl ⟨id, id⟩ ?_))
  refine RWP.seq ?_
  (repeat (first | refine AWP.seq ?_ | refine AWP.skip ?_ | refine AWP.label ?_ | refine AWP.exit ?_ | refine AWP.block ?_ | refine AWP.region hX yK_ok rfl trivial ?_ | refine AWP.region hX yK_ok rfl id ?_ | refine AWP.region hX yK_ok rfl ⟨id, id⟩ ?_))
  refine AWP.loop (ι := Nat) (fun j => ⟨[(0, yLit l), (3, ⟨.obuf u8, (0 : Nat)⟩), (6, ⟨.int .u64, BitVec.ofNat 64 8 * BitVec.ofInt 64 (msg.length : Int)⟩), (7, ⟨i64, (8 * (7 - (j : Int)) : Int)⟩)], [(0, some (.buf 5 u8 (msg ++ [0x80] ++ List.replicate (zerosFor msg.length) 0 ++ (be64 msg.length).take j)))], 6⟩) (fun j => j ≤ 8) (fun j => 8 - j) 0 (by omega) ⟨⟨rfl, rfl, rfl, rfl, trivial⟩, ⟨bufEq (by simp), trivial⟩, rfl, rfl⟩ ?_
  intro j hj
  (repeat (first | refine AWP.seq ?_ | refine AWP.skip ?_ | refine AWP.block ?_ | refine AWP.exit ?_)); refine AWP.region hX yK_ok rfl ?_ ?_
  · trivial
  refine AWP.cond rfl (fun hb => ?_) (fun hb => ?_)
  · simp at hb
    (repeat (first | refine AWP.seq ?_ | refine AWP.skip ?_ | refine AWP.block ?_ | refine AWP.exit ?_)); refine AWP.region hX yK_ok rfl ?_ ?_
    · refine ⟨by show 0 ≤ 8 * (7 - (j : Int)); omega, ?_⟩
      show List.length (msg ++ [0x80] ++ List.replicate (zerosFor msg.length) 0 ++ (be64 msg.length).take j) + List.length [_] ≤ 1000000000
      simp; omega
    (repeat (first | refine AWP.seq ?_ | refine AWP.skip ?_ | refine AWP.block ?_ | refine AWP.exit ?_)); refine AWP.region hX yK_ok rfl ?_ ?_
    · exact inR_small (by show _ ≤ 8 * (7 - (j : Int)) - 8; omega) (by show 8 * (7 - (j : Int)) - 8 ≤ _; omega)
    refine ⟨j + 1, by omega, by omega, ⟨rfl, rfl, rfl, V.congr (show (8 * (7 - (j : Int)) - 8 : Int) = 8 * (7 - ((j + 1 : Nat) : Int)) by omega), trivial⟩, ⟨bufEq ?_, trivial⟩, rfl, rfl⟩
    rw [be64_take _ _ (by omega), ← sizeByte_eq _ _ hlen (by omega), ← List.append_assoc]
    rw [show (((7 - j : Nat)) : Int) = 7 - (j : Int) by omega]
    rfl
  simp at hb
  have : j = 8 := by omega
  subst this
  (repeat (first | refine AWP.seq ?_ | refine AWP.skip ?_ | refine AWP.label ?_ | refine AWP.exit ?_ | refine AWP.block ?_ | refine AWP.region hX yK_ok rfl trivial ?_ | refine AWP.region hX yK_ok rfl id ?_ | refine AWP.region hX yK_ok rfl ⟨id, id⟩ ?_))
  intro β a w1 h1
  have hXR : ∀ g, ¬ X.R g := Ownr.plain_noR _ _
  have hb1 : Below W.heap.size W w1 := h1.bel.below hXR
  have ho := h1.own 0 _ rfl
  have hn := fun g => h1.new 0 _ g rfl
  have h3 : a.tmps.getD 3 undef = β 0 := h1.fr 3
  have h0' : a.tmps.getD 0 undef = .func (.yield l) #[] #[] := h1.fr 0
  have hpl : pad msg = msg ++ [0x80] ++ List.replicate (zerosFor msg.length) 0 ++ (be64 msg.length).take 8 := rfl
  have hpl2 : (pad msg).length ≤ 2000200 := by simp [pad, be64, zerosFor]; omega
  rw [← hpl] at ho
  have h2 : Sim w1 (Ownr.plain (fun _ => True) (fun h => h < W.heap.size)) 53 ⟨[(0, yLit l), (3, ⟨bs, pad msg⟩)], [], 0⟩ β a w1 := by
    refine Sim.fresh rfl h1.sz h1.df (rep_cons h0' (rep_cons ?_ rep_nil)) rfl
    rw [h3]
    refine repD_repV (OwnRep.view (O := fun _ => True) (OwnRep.flat rfl ho) (fun _ _ _ => trivial) fun g hg hlt => ?_)
    rcases hn g hg with h | h
    · have : g < W.heap.size := hlt
      omega
    · exact hXR g h
  refine Go.wpIn_mono (blocks1_loop l J W (pad msg) (pad_length msg) hpl2 hJ (fun k x y W1 hj hy hs hr => YieldAt.any (hY k x y W1 hj hy hs hr)) h2 hb1.size (hJ 0 _ _ h0 hb1)) ?_
  rintro e a' w' ⟨rfl, hd, hj⟩
  exact ⟨hd, _, results_none rfl _ _ _, ⟨_, rfl⟩, hj⟩
end Go.Proofs.YthhphphdbgkdgaaDoor
