/-
  Package letter: an answer's bytes.
-/
import Derived.Test.YtbbeldmcdjjnbaaDoorLtN
import Derived.Test.YtbbeldmcdjjnbaaDoorAbsVar
namespace Go.Proofs.YtbbeldmcdjjnbaaDoor
open Go Go.RowKit
set_option linter.unusedSimpArgs false
set_option linter.unusedVariables false
set_option maxRecDepth 100000
theorem wBuild (w : World) (ev : Operand → Value) (o : Oper) (ho : o.op = .build 83 #[(0, .tmp 1)]) {A : Addr} (h1 : ev (.tmp 1) = .pointer (some A)) : (execOp ev o).run Tryd.prog w = .ok (.value (.agg [.pointer (some A), .slice none 0 0].toArray)) w := by
  unfold execOp
  simp only [ho]
  refine run_v ?_
  simp [Instr.build, Tryd.zeroValue83, h1, go_sem]
theorem fnArr : FnArr Tryd.prog 85 17 := by
  refine ⟨fun w => by simp [go_sem], fun w ev o ho => ?_, fun w ev o p i g k hk ho hp hi => ?_⟩
  · unfold execOp
    simp [ho, Instr.alloc, Tryd.zeroValue85, newVar, newRow, go_sem]
  · unfold execOp
    simp only [ho, hp, hi]
    refine run_v ?_
    simp [asIntOf, hk, go_sem]
    intro h
    exact absurd h (by omega)
theorem fnV : FnTy Tryd.prog 1 := by
  refine ⟨fun w => by simp [go_sem], fun w => by simp [go_sem], fun w ev o ho => ?_⟩
  unfold execOp
  simp [ho, Instr.alloc, Tryd.zeroValue1, newVar, newRow, go_sem]
/-- the functions in the array -/
def mV (f : FuncId) (g : Nat) : Value := .func (.func f) #[.pointer (some ⟨g, 0, none⟩)] #[]
def fnA (g : Nat) : List Value := [.nilFunc, .nilFunc, .nilFunc, .nilFunc, .nilFunc, .nilFunc, .nilFunc, .nilFunc, .nilFunc, mV 29 g, mV 30 g, .nilFunc, .nilFunc, .nilFunc, mV 31 g, mV 32 g, mV 33 g]
theorem fnA_one {g : Nat} : ∀ u ∈ fnA g, u.oneCell' = true := by
  intro u hu
  simp only [fnA, List.mem_cons, List.not_mem_nil, or_false] at hu
  rcases hu with rfl | rfl | rfl | rfl | rfl | rfl | rfl | rfl | rfl | rfl | rfl | rfl | rfl | rfl | rfl | rfl | rfl <;> rfl
theorem aBuild (w : World) (ev : Operand → Value) (o : Oper) (ho : o.op = .build 85 #[(9, .tmp 35), (10, .tmp 37), (14, .tmp 39), (15, .tmp 41), (16, .tmp 43)]) {g : Nat} (h1 : ev (.tmp 35) = mV 29 g) (h2 : ev (.tmp 37) = mV 30 g) (h3 : ev (.tmp 39) = mV 31 g)
    (h4 : ev (.tmp 41) = mV 32 g) (h5 : ev (.tmp 43) = mV 33 g) : (execOp ev o).run Tryd.prog w = .ok (.value (.agg (fnA g).toArray)) w := by
  unfold execOp
  simp only [ho]
  refine run_v ?_
  simp [Instr.build, Tryd.zeroValue85, h1, h2, h3, h4, h5, mV, fnA, go_sem]
def kLB : Kn := { ltK with C := [(27, cLValid), (35, cUses)] }
theorem kLB_ok : KnOk Tryd.prog pG kLB := ltK_ok.with (.cons lValid_ok <| .cons uses_ok .nil)
def hd3 (l : Lt) : List Int := [l.1, l.2.1, l.2.2.1]
def partL (l : Lt) : Nat → List UInt8
  | 4 => leB l.2.2.2.2.2.2.2.1 8
  | 5 => leB l.2.2.2.2.2.2.2.2.1 8
  | 13 => leB l.2.2.2.2.2.2.2.2.2.2.2.2.2.2.2.2.1 8
  | 14 => winB l.2.2.2.2.2.2.2.2.2.2.2.2.2.2.2.2.2.1
  | 15 => celB l.2.2.2.2.2.2.2.2.2.2.2.2.2.2.2.2.2.2.1
  | 16 => l.2.2.2.2.2.2.2.2.2.2.2.2.2.2.2.2.2.2.2.1
  | _ => []
def outL (l : Lt) (k : Nat) : List UInt8 := ((hd3 l).map fun x => leB x 1).flatten ++ ((List.range k).map (partL l)).flatten
theorem outL_0 (l : Lt) : outL l 0 = ((hd3 l).map fun x => leB x 1).flatten := List.append_nil _
theorem outL_succ (l : Lt) (k : Nat) : outL l (k + 1) = outL l k ++ partL l k := by
  unfold outL
  rw [List.range_succ, List.map_append, List.flatten_append, List.append_assoc]
  simp
theorem outL_len {v : List Int} {g : Int} {w : Sp} (hl : v.length ≤ 65536) {k : Nat} (hk : k ≤ 17) : (outL (ansL v g w) k).length ≤ 900000 := by
  have h1 : ∀ d, (outL (ansL v g w) k).length ≤ (outL (ansL v g w) (k + d)).length := by
    intro d
    induction d with
    | zero => exact Nat.le_refl _
    | succ d ih => rw [← Nat.add_assoc, outL_succ, List.length_append]; omega
  have h2 := h1 (17 - k)
  rw [show k + (17 - k) = 17 by omega] at h2
  have h3 : (outL (ansL v g w) 17).length = 3 + (8 + 8 + 8 + (8 + 8) + (4 + v.length) + 32) := by
    have e : ∀ n, outL (ansL v g w) (n + 1) = outL (ansL v g w) n ++ partL (ansL v g w) n := outL_succ _
    have p0 : (partL (ansL v g w) 0).length = 0 := rfl
    have p1 : (partL (ansL v g w) 1).length = 0 := rfl
    have p2 : (partL (ansL v g w) 2).length = 0 := rfl
    have p3 : (partL (ansL v g w) 3).length = 0 := rfl
    have p4 : (partL (ansL v g w) 4).length = 8 := leB_len _ _
    have p5 : (partL (ansL v g w) 5).length = 8 := leB_len _ _
    have p6 : (partL (ansL v g w) 6).length = 0 := rfl
    have p7 : (partL (ansL v g w) 7).length = 0 := rfl
    have p8 : (partL (ansL v g w) 8).length = 0 := rfl
    have p9 : (partL (ansL v g w) 9).length = 0 := rfl
    have p10 : (partL (ansL v g w) 10).length = 0 := rfl
    have p11 : (partL (ansL v g w) 11).length = 0 := rfl
    have p12 : (partL (ansL v g w) 12).length = 0 := rfl
    have p13 : (partL (ansL v g w) 13).length = 8 := leB_len _ _
    have p14 : (partL (ansL v g w) 14).length = 16 := by show (winB w).length = 16; unfold winB; rw [List.length_append, leB_len, leB_len]
    have p15 : (partL (ansL v g w) 15).length = 4 + v.length := by show (celB v).length = _; unfold celB; rw [List.length_append, leB_len, celB_len]
    have p16 : (partL (ansL v g w) 16).length = 32 := List.length_replicate ..
    have q : (((hd3 (ansL v g w)).map fun x => leB x 1).flatten).length = 3 := by rw [celB_len]; rfl
    simp only [e, outL_0, List.length_append, q, p0, p1, p2, p3, p4, p5, p6, p7, p8, p9, p10, p11, p12, p13, p14, p15, p16]
    omega
  omega
/-- an answer's bytes -/
def bytesL (l : Lt) : List UInt8 := outL l 17
def cLBytes : Ctr := { args := [lt], pre := fun x => [ansOk x.1], res := .tup bs (.tup i64 .unit), own := none, out := fun x => (bytesL x.1, (0 : Int), ()) }
theorem lBytes_ok : CtrOk Tryd.prog pG 19 cLBytes := by
  refine ctr_of_awp (K := kLB) kLB_ok Tryd.func19 rfl rfl Tryd.call19 rfl (by decide) (by intro h; cases h) ?_
  rintro w0 X hX ⟨(l : Lt), ⟨⟩⟩ hp
  have hok : ansOk l := hp
  change AWP _ _ _ _ _ ⟨[(0, ⟨lt, l⟩)], [], 0⟩ _
  (repeat (first | refine AWP.seq ?_ | refine AWP.skip ?_ | refine AWP.block ?_ | refine AWP.exit ?_)); refine AWP.region hX kLB_ok rfl ?_ ?_
  · trivial
  refine AWP.frzB hX 1 ?_
  (repeat (first | refine AWP.seq ?_ | refine AWP.skip ?_ | refine AWP.block ?_ | refine AWP.exit ?_)); refine AWP.region hX kLB_ok rfl ?_ ?_
  · repeat' (first | exact trivial | assumption | exact hok | (intro _) | (refine ⟨?_, ?_⟩))
  (repeat (first | refine AWP.seq ?_ | refine AWP.skip ?_ | refine AWP.block ?_ | refine AWP.exit ?_)); refine AWP.region hX kLB_ok rfl ?_ ?_
  · trivial
  refine AWP.cond rfl (fun hb => absurd (show false = true from hb) (by decide)) (fun _ => ?_)
  refine AWP.skip ?_
  refine AWP.seq ?_
  refine AWP.list ?_
  refine AL.hand rfl (by intro c e; cases e) fun β a w hs => ?_
  obtain ⟨g1, off1, cs1, p1, p2⟩ := hs.ops (.tmp 1)
  refine valH_wp rfl rfl (v := ⟨.hcons (.vptr lt) (.hcons .lit .unit), (l, (Value.slice none 0 0, ()))⟩) (Nat.zero_le _) (N := fun σ' => AL _ _ _ _ _ _ σ' _) ?_ hs (wBuild w a.eval _ rfl p1) ⟨_, _, rfl, rfl, ⟨g1, off1, cs1, rfl, p2⟩, ⟨_, _, rfl, rfl, rfl, (RepD.agg (t := .unit) rfl).2 ⟨[], rfl, rfl⟩⟩⟩
  clear p1 p2 hs
  refine AL.box2 hX rfl rfl rfl rfl rfl rfl rfl ?_
  refine AL.all hX kLB_ok rfl trivial ?_
  refine AWP.nilLeaf 1 1 5 u8 rfl rfl rfl ?_
  (repeat (first | refine AWP.seq ?_ | refine AWP.skip ?_ | refine AWP.block ?_ | refine AWP.exit ?_)); refine AWP.region hX kLB_ok rfl ?_ ?_
  · trivial
  refine AWP.rename rfl [(1, 0), (2, 1), (3, 2)] 103 ?_
  refine AWP.fit (σ' := ⟨[(1, ⟨.vptr lt, l⟩), (5, ⟨.hptr, ((0 : Nat), (0 : Nat))⟩), (24, ⟨.obuf i64, (2 : Nat)⟩), (25, ⟨i64, (3 : Int)⟩), (26, ⟨i64, (0 : Int)⟩)], [(0, some (.hbox [⟨.vptr lt, l⟩, ⟨.obuf u8, (1 : Nat)⟩])), (1, some (.buf 5 u8 [])), (2, some (.buf 3 i64 (hd3 l)))], 3⟩) ⟨⟨rfl, rfl, rfl, rfl, rfl, trivial⟩, ⟨rfl, rfl, rfl, trivial⟩, rfl, rfl⟩ ?_
  (repeat (first | refine AWP.seq ?_ | refine AWP.block ?_))
  refine AWP.loop (ι := Nat) (fun k => ⟨[(1, ⟨.vptr lt, l⟩), (5, ⟨.hptr, ((0 : Nat), (0 : Nat))⟩), (24, ⟨.obuf i64, (2 : Nat)⟩), (25, ⟨i64, (3 : Int)⟩), (26, ⟨i64, (k : Int)⟩)], [(0, some (.hbox [⟨.vptr lt, l⟩, ⟨.obuf u8, (1 : Nat)⟩])), (1, some (.buf 5 u8 ((((hd3 l).take k).map fun x => leB x 1).flatten))), (2, some (.buf 3 i64 (hd3 l)))], 3⟩) (fun k => k ≤ 3) (fun k => 3 - k) 0 (by omega) ⟨⟨rfl, rfl, rfl, rfl, rfl, trivial⟩, ⟨rfl, rfl, rfl, trivial⟩, rfl, rfl⟩ ?_
  intro k hk
  (repeat (first | refine AWP.seq ?_ | refine AWP.skip ?_ | refine AWP.block ?_ | refine AWP.exit ?_)); refine AWP.region hX kLB_ok rfl ?_ ?_
  · trivial
  refine AWP.seq ?_
  refine AWP.cond rfl (fun hb => ?_) (fun hb => ?_)
  · have hb : decide ((k : Int) < 3) = true := hb
    have hb := of_decide_eq_true hb
    have hlt : k < (hd3 l).length := by show k < 3; omega
    have n0 : (0 : Int) ≤ (k : Int) := by omega
    have eg : (hd3 l).getD (k : Int).toNat 0 = (hd3 l)[k] := getD_at' hlt
    have c5 : (0 : Int) ≤ 1 := by decide
    have c6 : (1 : Int) ≤ 8 := by decide
    have c7 : ((((hd3 l).take k).map fun x => leB x 1).flatten).length ≤ 1000000 := by
      rw [celB_len, List.length_take]
      omega
    (repeat (first | refine AWP.seq ?_ | refine AWP.skip ?_ | refine AWP.block ?_ | refine AWP.exit ?_)); refine AWP.region hX kLB_ok rfl ?_ ?_
    · exact ⟨n0, (by exact_mod_cast hlt), (by rw [Int.toNat_natCast]; exact hlt)⟩
    refine AWP.list ?_
    refine AL.own 2 hX kLB_ok hW_ok rfl trivial rfl rfl ⟨c5, c6, c7⟩ (fun _ _ _ _ => trivial) ?_
    refine AL.nil ?_
    (repeat (first | refine AWP.seq ?_ | refine AWP.skip ?_ | refine AWP.block ?_ | refine AWP.exit ?_)); refine AWP.region hX kLB_ok rfl ?_ ?_
    · exact inR_succ (by omega)
    refine ⟨k + 1, by omega, by omega, ⟨rfl, rfl, rfl, rfl, vSucc _, trivial⟩, ⟨rfl, bufEq ?_, rfl, trivial⟩, rfl, rfl⟩
    rw [List.take_succ_eq_append_getElem hlt, List.map_append, List.flatten_append, ← eg]
    simp
    rfl
  · have hb : decide ((k : Int) < 3) = false := hb
    have hb := of_decide_eq_false hb
    have hkl : k = 3 := by omega
    subst hkl
    refine AWP.exit ?_
    rw [show (hd3 l).take 3 = hd3 l from rfl]
    refine AWP.pin hX rfl rfl ?_
    rintro w1 ⟨G, O, K, fix, D, ρ, B⟩ hX hG hK hρ hD hXX
    obtain rfl : G = pG := hG
    obtain rfl : K = 1 := hK
    obtain rfl : ρ = none := hρ
    obtain rfl : D = [] := hD
    refine AWP.seq ?_
    refine AWP.list ?_
    refine AL.take 1 hX kLB_ok rfl trivial ?_
    refine AL.meth rfl rfl rfl rfl rfl rfl ?_
    refine AL.take 1 hX kLB_ok rfl trivial ?_
    refine AL.meth rfl rfl rfl rfl rfl rfl ?_
    refine AL.take 1 hX kLB_ok rfl trivial ?_
    refine AL.meth rfl rfl rfl rfl rfl rfl ?_
    refine AL.take 1 hX kLB_ok rfl trivial ?_
    refine AL.meth rfl rfl rfl rfl rfl rfl ?_
    refine AL.take 1 hX kLB_ok rfl trivial ?_
    refine AL.meth rfl rfl rfl rfl rfl rfl ?_
    refine AL.litv rfl (by intro c e; cases e) rfl rfl (.agg (fnA (fix 0)).toArray) (fun β a w hs => aBuild w a.eval _ rfl (lit_eval hs rfl) (lit_eval hs rfl) (lit_eval hs rfl) (lit_eval hs rfl) (lit_eval hs rfl)) ?_
    refine AL.newA fnArr hX rfl rfl rfl rfl ?_
    refine AL.setA fnArr rfl rfl rfl rfl rfl (by rw [show ∀ u : List Value, (lits u).length = u.length from fun u => List.length_map ..]; rfl) (us := fnA (fix 0)) rfl fnA_one rfl ?_
    refine AL.nil ?_
    -- rounds
    obtain ⟨v, g, w, rfl, hgg, hw, hv, hl⟩ := id hok
    refine AWP.seq ?_
    refine AWP.seq ?_
    refine AWP.list ?_
    refine AL.callV rfl rfl Tryd.call34 rfl rfl (v := ⟨nvT, nvX (ansL v g w)⟩) rfl (numbers_hand rfl) ?_
    refine AL.all hX kLB_ok rfl trivial ?_
    refine AWP.block ?_
    refine AWP.loop (ι := Nat) (fun k => ⟨[(1, ⟨.vptr lt, ansL v g w⟩), (5, ⟨.hptr, ((0 : Nat), (0 : Nat))⟩), (8, ⟨.hptr, ((3 : Nat), (0 : Nat))⟩), (45, ⟨nvT, nvX (ansL v g w)⟩), (46, ⟨i64, (k : Int)⟩)], [(0, some (.hbox [⟨.vptr lt, ansL v g w⟩, ⟨.obuf u8, (1 : Nat)⟩])), (1, some (.buf 5 u8 (outL (ansL v g w) k))), (3, some (.hbox (lits (fnA (fix 0)))))], 4⟩) (fun k => k ≤ 17) (fun k => 17 - k) 0 (by omega) ⟨⟨rfl, rfl, rfl, rfl, rfl, trivial⟩, ⟨rfl, bufEq (outL_0 _).symm, rfl, trivial⟩, rfl, rfl⟩ ?_
    intro k hk
    (repeat (first | refine AWP.seq ?_ | refine AWP.skip ?_ | refine AWP.block ?_ | refine AWP.exit ?_)); refine AWP.region hX kLB_ok rfl ?_ ?_
    · trivial
    refine AWP.seq ?_
    refine AWP.cond rfl (fun hb => ?_) (fun hb => ?_)
    · have hb : decide ((k : Int) < 17) = true := hb
      have hb := of_decide_eq_true hb
      have hks : k = 0 ∨ k = 1 ∨ k = 2 ∨ k = 3 ∨ k = 4 ∨ k = 5 ∨ k = 6 ∨ k = 7 ∨ k = 8 ∨ k = 9 ∨ k = 10 ∨ k = 11 ∨ k = 12 ∨ k = 13 ∨ k = 14 ∨ k = 15 ∨ k = 16 := by omega
      have hlen : ∀ k, k ≤ 17 → (outL (ansL v g w) k).length ≤ 900000 := fun k hk => outL_len hl hk
      have hlen2 : ∀ k, k ≤ 17 → (outL (ansL v g w) k).length ≤ 1000000 := fun k hk => Nat.le_trans (hlen k hk) (by decide)
      refine AWP.skip ?_
      (repeat (first | refine AWP.seq ?_ | refine AWP.block ?_))
      rcases hks with rfl | rfl | rfl | rfl | rfl | rfl | rfl | rfl | rfl | rfl | rfl | rfl | rfl | rfl | rfl | rfl | rfl
      · refine AWP.list ?_
        refine AL.take 1 hX kLB_ok rfl trivial ?_
        refine AL.idxH ptrArr rfl rfl rfl rfl 0 rfl rfl rfl rfl rfl ?_
        refine AL.all hX kLB_ok rfl trivial ?_
        (repeat (first | refine AWP.seq ?_ | refine AWP.block ?_))
        (repeat (first | refine AWP.seq ?_ | refine AWP.skip ?_ | refine AWP.block ?_ | refine AWP.exit ?_)); refine AWP.region hX kLB_ok rfl ?_ ?_
        · exact ⟨rfl, (show (0 : Int) ≤ ((0 : Nat) : Int) by decide), (show ((0 : Nat) : Int) < 17 by decide)⟩
        refine AWP.cond rfl (fun _ => ?_) (fun hb => absurd (show true = false from hb) (by decide))
        refine AWP.skip ?_
        refine AWP.region hX kLB_ok rfl (inR_small (by decide) (by decide)) ?_
        exact ⟨1, by omega, by omega, ⟨rfl, rfl, rfl, rfl, rfl, trivial⟩, ⟨rfl, bufEq (outL_succ _ 0).symm, rfl, trivial⟩, rfl, rfl⟩
      · refine AWP.list ?_
        refine AL.take 1 hX kLB_ok rfl trivial ?_
        refine AL.idxH ptrArr rfl rfl rfl rfl 1 rfl rfl rfl rfl rfl ?_
        refine AL.all hX kLB_ok rfl trivial ?_
        (repeat (first | refine AWP.seq ?_ | refine AWP.block ?_))
        (repeat (first | refine AWP.seq ?_ | refine AWP.skip ?_ | refine AWP.block ?_ | refine AWP.exit ?_)); refine AWP.region hX kLB_ok rfl ?_ ?_
        · exact ⟨rfl, (show (0 : Int) ≤ ((1 : Nat) : Int) by decide), (show ((1 : Nat) : Int) < 17 by decide)⟩
        refine AWP.cond rfl (fun _ => ?_) (fun hb => absurd (show true = false from hb) (by decide))
        refine AWP.skip ?_
        refine AWP.region hX kLB_ok rfl (inR_small (by decide) (by decide)) ?_
        exact ⟨2, by omega, by omega, ⟨rfl, rfl, rfl, rfl, rfl, trivial⟩, ⟨rfl, bufEq (outL_succ _ 1).symm, rfl, trivial⟩, rfl, rfl⟩
      · refine AWP.list ?_
        refine AL.take 1 hX kLB_ok rfl trivial ?_
        refine AL.idxH ptrArr rfl rfl rfl rfl 2 rfl rfl rfl rfl rfl ?_
        refine AL.all hX kLB_ok rfl trivial ?_
        (repeat (first | refine AWP.seq ?_ | refine AWP.block ?_))
        (repeat (first | refine AWP.seq ?_ | refine AWP.skip ?_ | refine AWP.block ?_ | refine AWP.exit ?_)); refine AWP.region hX kLB_ok rfl ?_ ?_
        · exact ⟨rfl, (show (0 : Int) ≤ ((2 : Nat) : Int) by decide), (show ((2 : Nat) : Int) < 17 by decide)⟩
        refine AWP.cond rfl (fun _ => ?_) (fun hb => absurd (show true = false from hb) (by decide))
        refine AWP.skip ?_
        refine AWP.region hX kLB_ok rfl (inR_small (by decide) (by decide)) ?_
        exact ⟨3, by omega, by omega, ⟨rfl, rfl, rfl, rfl, rfl, trivial⟩, ⟨rfl, bufEq (outL_succ _ 2).symm, rfl, trivial⟩, rfl, rfl⟩
      · refine AWP.list ?_
        refine AL.take 1 hX kLB_ok rfl trivial ?_
        refine AL.idxH ptrArr rfl rfl rfl rfl 3 rfl rfl rfl rfl rfl ?_
        refine AL.all hX kLB_ok rfl trivial ?_
        (repeat (first | refine AWP.seq ?_ | refine AWP.block ?_))
        (repeat (first | refine AWP.seq ?_ | refine AWP.skip ?_ | refine AWP.block ?_ | refine AWP.exit ?_)); refine AWP.region hX kLB_ok rfl ?_ ?_
        · exact ⟨rfl, (show (0 : Int) ≤ ((3 : Nat) : Int) by decide), (show ((3 : Nat) : Int) < 17 by decide)⟩
        refine AWP.cond rfl (fun _ => ?_) (fun hb => absurd (show true = false from hb) (by decide))
        refine AWP.skip ?_
        refine AWP.region hX kLB_ok rfl (inR_small (by decide) (by decide)) ?_
        exact ⟨4, by omega, by omega, ⟨rfl, rfl, rfl, rfl, rfl, trivial⟩, ⟨rfl, bufEq (outL_succ _ 3).symm, rfl, trivial⟩, rfl, rfl⟩
      · refine AWP.list ?_
        refine AL.take 1 hX kLB_ok rfl trivial ?_
        refine AL.idxH ptrArr rfl rfl rfl rfl 4 rfl rfl rfl rfl rfl ?_
        refine AL.all hX kLB_ok rfl trivial ?_
        (repeat (first | refine AWP.seq ?_ | refine AWP.block ?_))
        (repeat (first | refine AWP.seq ?_ | refine AWP.skip ?_ | refine AWP.block ?_ | refine AWP.exit ?_)); refine AWP.region hX kLB_ok rfl ?_ ?_
        · exact ⟨rfl, (show (0 : Int) ≤ ((4 : Nat) : Int) by decide), (show ((4 : Nat) : Int) < 17 by decide)⟩
        refine AWP.cond rfl (fun hb => absurd (show false = true from hb) (by decide)) (fun _ => ?_)
        refine AWP.seq ?_
        refine AWP.list ?_
        refine AL.take 1 hX kLB_ok rfl trivial ?_
        refine AL.nilP ptrEq (.inr ⟨rfl, rfl⟩) rfl rfl rfl rfl rfl rfl ?_
        refine AL.all hX kLB_ok rfl trivial ?_
        refine AWP.cond rfl (fun _ => ?_) (fun hb => absurd (show true = false from hb) (by decide))
        refine AWP.list ?_
        refine AL.own 4 hX kLB_ok hW_ok rfl trivial rfl rfl ⟨(show (0 : Int) ≤ 8 by decide), (show (8 : Int) ≤ 8 by decide), hlen2 4 (by decide)⟩ (fun _ _ _ _ => trivial) ?_
        refine AL.nil ?_
        refine AWP.region hX kLB_ok rfl (inR_small (by decide) (by decide)) ?_
        exact ⟨5, by omega, by omega, ⟨rfl, rfl, rfl, rfl, rfl, trivial⟩, ⟨rfl, bufEq (outL_succ _ 4).symm, rfl, trivial⟩, rfl, rfl⟩
      · refine AWP.list ?_
        refine AL.take 1 hX kLB_ok rfl trivial ?_
        refine AL.idxH ptrArr rfl rfl rfl rfl 5 rfl rfl rfl rfl rfl ?_
        refine AL.all hX kLB_ok rfl trivial ?_
        (repeat (first | refine AWP.seq ?_ | refine AWP.block ?_))
        (repeat (first | refine AWP.seq ?_ | refine AWP.skip ?_ | refine AWP.block ?_ | refine AWP.exit ?_)); refine AWP.region hX kLB_ok rfl ?_ ?_
        · exact ⟨rfl, (show (0 : Int) ≤ ((5 : Nat) : Int) by decide), (show ((5 : Nat) : Int) < 17 by decide)⟩
        refine AWP.cond rfl (fun hb => absurd (show false = true from hb) (by decide)) (fun _ => ?_)
        refine AWP.seq ?_
        refine AWP.list ?_
        refine AL.take 1 hX kLB_ok rfl trivial ?_
        refine AL.nilP ptrEq (.inr ⟨rfl, rfl⟩) rfl rfl rfl rfl rfl rfl ?_
        refine AL.all hX kLB_ok rfl trivial ?_
        refine AWP.cond rfl (fun _ => ?_) (fun hb => absurd (show true = false from hb) (by decide))
        refine AWP.list ?_
        refine AL.own 4 hX kLB_ok hW_ok rfl trivial rfl rfl ⟨(show (0 : Int) ≤ 8 by decide), (show (8 : Int) ≤ 8 by decide), hlen2 5 (by decide)⟩ (fun _ _ _ _ => trivial) ?_
        refine AL.nil ?_
        refine AWP.region hX kLB_ok rfl (inR_small (by decide) (by decide)) ?_
        exact ⟨6, by omega, by omega, ⟨rfl, rfl, rfl, rfl, rfl, trivial⟩, ⟨rfl, bufEq (outL_succ _ 5).symm, rfl, trivial⟩, rfl, rfl⟩
      · refine AWP.list ?_
        refine AL.take 1 hX kLB_ok rfl trivial ?_
        refine AL.idxH ptrArr rfl rfl rfl rfl 6 rfl rfl rfl rfl rfl ?_
        refine AL.all hX kLB_ok rfl trivial ?_
        (repeat (first | refine AWP.seq ?_ | refine AWP.block ?_))
        (repeat (first | refine AWP.seq ?_ | refine AWP.skip ?_ | refine AWP.block ?_ | refine AWP.exit ?_)); refine AWP.region hX kLB_ok rfl ?_ ?_
        · exact ⟨rfl, (show (0 : Int) ≤ ((6 : Nat) : Int) by decide), (show ((6 : Nat) : Int) < 17 by decide)⟩
        refine AWP.cond rfl (fun _ => ?_) (fun hb => absurd (show true = false from hb) (by decide))
        refine AWP.skip ?_
        refine AWP.region hX kLB_ok rfl (inR_small (by decide) (by decide)) ?_
        exact ⟨7, by omega, by omega, ⟨rfl, rfl, rfl, rfl, rfl, trivial⟩, ⟨rfl, bufEq (outL_succ _ 6).symm, rfl, trivial⟩, rfl, rfl⟩
      · refine AWP.list ?_
        refine AL.take 1 hX kLB_ok rfl trivial ?_
        refine AL.idxH ptrArr rfl rfl rfl rfl 7 rfl rfl rfl rfl rfl ?_
        refine AL.all hX kLB_ok rfl trivial ?_
        (repeat (first | refine AWP.seq ?_ | refine AWP.block ?_))
        (repeat (first | refine AWP.seq ?_ | refine AWP.skip ?_ | refine AWP.block ?_ | refine AWP.exit ?_)); refine AWP.region hX kLB_ok rfl ?_ ?_
        · exact ⟨rfl, (show (0 : Int) ≤ ((7 : Nat) : Int) by decide), (show ((7 : Nat) : Int) < 17 by decide)⟩
        refine AWP.cond rfl (fun _ => ?_) (fun hb => absurd (show true = false from hb) (by decide))
        refine AWP.skip ?_
        refine AWP.region hX kLB_ok rfl (inR_small (by decide) (by decide)) ?_
        exact ⟨8, by omega, by omega, ⟨rfl, rfl, rfl, rfl, rfl, trivial⟩, ⟨rfl, bufEq (outL_succ _ 7).symm, rfl, trivial⟩, rfl, rfl⟩
      · refine AWP.list ?_
        refine AL.take 1 hX kLB_ok rfl trivial ?_
        refine AL.idxH ptrArr rfl rfl rfl rfl 8 rfl rfl rfl rfl rfl ?_
        refine AL.all hX kLB_ok rfl trivial ?_
        (repeat (first | refine AWP.seq ?_ | refine AWP.block ?_))
        (repeat (first | refine AWP.seq ?_ | refine AWP.skip ?_ | refine AWP.block ?_ | refine AWP.exit ?_)); refine AWP.region hX kLB_ok rfl ?_ ?_
        · exact ⟨rfl, (show (0 : Int) ≤ ((8 : Nat) : Int) by decide), (show ((8 : Nat) : Int) < 17 by decide)⟩
        refine AWP.cond rfl (fun _ => ?_) (fun hb => absurd (show true = false from hb) (by decide))
        refine AWP.skip ?_
        refine AWP.region hX kLB_ok rfl (inR_small (by decide) (by decide)) ?_
        exact ⟨9, by omega, by omega, ⟨rfl, rfl, rfl, rfl, rfl, trivial⟩, ⟨rfl, bufEq (outL_succ _ 8).symm, rfl, trivial⟩, rfl, rfl⟩
      · refine AWP.list ?_
        refine AL.take 1 hX kLB_ok rfl trivial ?_
        refine AL.idxH ptrArr rfl rfl rfl rfl 9 rfl rfl rfl rfl rfl ?_
        refine AL.all hX kLB_ok rfl trivial ?_
        (repeat (first | refine AWP.seq ?_ | refine AWP.block ?_))
        (repeat (first | refine AWP.seq ?_ | refine AWP.skip ?_ | refine AWP.block ?_ | refine AWP.exit ?_)); refine AWP.region hX kLB_ok rfl ?_ ?_
        · exact ⟨rfl, (show (0 : Int) ≤ ((9 : Nat) : Int) by decide), (show ((9 : Nat) : Int) < 17 by decide)⟩
        refine AWP.cond rfl (fun _ => ?_) (fun hb => absurd (show true = false from hb) (by decide))
        refine AWP.skip ?_
        refine AWP.region hX kLB_ok rfl (inR_small (by decide) (by decide)) ?_
        exact ⟨10, by omega, by omega, ⟨rfl, rfl, rfl, rfl, rfl, trivial⟩, ⟨rfl, bufEq (outL_succ _ 9).symm, rfl, trivial⟩, rfl, rfl⟩
      · refine AWP.list ?_
        refine AL.take 1 hX kLB_ok rfl trivial ?_
        refine AL.idxH ptrArr rfl rfl rfl rfl 10 rfl rfl rfl rfl rfl ?_
        refine AL.all hX kLB_ok rfl trivial ?_
        (repeat (first | refine AWP.seq ?_ | refine AWP.block ?_))
        (repeat (first | refine AWP.seq ?_ | refine AWP.skip ?_ | refine AWP.block ?_ | refine AWP.exit ?_)); refine AWP.region hX kLB_ok rfl ?_ ?_
        · exact ⟨rfl, (show (0 : Int) ≤ ((10 : Nat) : Int) by decide), (show ((10 : Nat) : Int) < 17 by decide)⟩
        refine AWP.cond rfl (fun _ => ?_) (fun hb => absurd (show true = false from hb) (by decide))
        refine AWP.skip ?_
        refine AWP.region hX kLB_ok rfl (inR_small (by decide) (by decide)) ?_
        exact ⟨11, by omega, by omega, ⟨rfl, rfl, rfl, rfl, rfl, trivial⟩, ⟨rfl, bufEq (outL_succ _ 10).symm, rfl, trivial⟩, rfl, rfl⟩
      · refine AWP.list ?_
        refine AL.take 1 hX kLB_ok rfl trivial ?_
        refine AL.idxH ptrArr rfl rfl rfl rfl 11 rfl rfl rfl rfl rfl ?_
        refine AL.all hX kLB_ok rfl trivial ?_
        (repeat (first | refine AWP.seq ?_ | refine AWP.block ?_))
        (repeat (first | refine AWP.seq ?_ | refine AWP.skip ?_ | refine AWP.block ?_ | refine AWP.exit ?_)); refine AWP.region hX kLB_ok rfl ?_ ?_
        · exact ⟨rfl, (show (0 : Int) ≤ ((11 : Nat) : Int) by decide), (show ((11 : Nat) : Int) < 17 by decide)⟩
        refine AWP.cond rfl (fun _ => ?_) (fun hb => absurd (show true = false from hb) (by decide))
        refine AWP.skip ?_
        refine AWP.region hX kLB_ok rfl (inR_small (by decide) (by decide)) ?_
        exact ⟨12, by omega, by omega, ⟨rfl, rfl, rfl, rfl, rfl, trivial⟩, ⟨rfl, bufEq (outL_succ _ 11).symm, rfl, trivial⟩, rfl, rfl⟩
      · refine AWP.list ?_
        refine AL.take 1 hX kLB_ok rfl trivial ?_
        refine AL.idxH ptrArr rfl rfl rfl rfl 12 rfl rfl rfl rfl rfl ?_
        refine AL.all hX kLB_ok rfl trivial ?_
        (repeat (first | refine AWP.seq ?_ | refine AWP.block ?_))
        (repeat (first | refine AWP.seq ?_ | refine AWP.skip ?_ | refine AWP.block ?_ | refine AWP.exit ?_)); refine AWP.region hX kLB_ok rfl ?_ ?_
        · exact ⟨rfl, (show (0 : Int) ≤ ((12 : Nat) : Int) by decide), (show ((12 : Nat) : Int) < 17 by decide)⟩
        refine AWP.cond rfl (fun _ => ?_) (fun hb => absurd (show true = false from hb) (by decide))
        refine AWP.skip ?_
        refine AWP.region hX kLB_ok rfl (inR_small (by decide) (by decide)) ?_
        exact ⟨13, by omega, by omega, ⟨rfl, rfl, rfl, rfl, rfl, trivial⟩, ⟨rfl, bufEq (outL_succ _ 12).symm, rfl, trivial⟩, rfl, rfl⟩
      · refine AWP.list ?_
        refine AL.take 1 hX kLB_ok rfl trivial ?_
        refine AL.idxH ptrArr rfl rfl rfl rfl 13 rfl rfl rfl rfl rfl ?_
        refine AL.all hX kLB_ok rfl trivial ?_
        (repeat (first | refine AWP.seq ?_ | refine AWP.block ?_))
        (repeat (first | refine AWP.seq ?_ | refine AWP.skip ?_ | refine AWP.block ?_ | refine AWP.exit ?_)); refine AWP.region hX kLB_ok rfl ?_ ?_
        · exact ⟨rfl, (show (0 : Int) ≤ ((13 : Nat) : Int) by decide), (show ((13 : Nat) : Int) < 17 by decide)⟩
        refine AWP.cond rfl (fun hb => absurd (show false = true from hb) (by decide)) (fun _ => ?_)
        refine AWP.seq ?_
        refine AWP.list ?_
        refine AL.take 1 hX kLB_ok rfl trivial ?_
        refine AL.nilP ptrEq (.inr ⟨rfl, rfl⟩) rfl rfl rfl rfl rfl rfl ?_
        refine AL.all hX kLB_ok rfl trivial ?_
        refine AWP.cond rfl (fun _ => ?_) (fun hb => absurd (show true = false from hb) (by decide))
        refine AWP.list ?_
        refine AL.own 4 hX kLB_ok hW_ok rfl trivial rfl rfl ⟨(show (0 : Int) ≤ 8 by decide), (show (8 : Int) ≤ 8 by decide), hlen2 13 (by decide)⟩ (fun _ _ _ _ => trivial) ?_
        refine AL.nil ?_
        refine AWP.region hX kLB_ok rfl (inR_small (by decide) (by decide)) ?_
        exact ⟨14, by omega, by omega, ⟨rfl, rfl, rfl, rfl, rfl, trivial⟩, ⟨rfl, bufEq (outL_succ _ 13).symm, rfl, trivial⟩, rfl, rfl⟩
      · refine AWP.list ?_
        refine AL.take 1 hX kLB_ok rfl trivial ?_
        refine AL.idxH ptrArr rfl rfl rfl rfl 14 rfl rfl rfl rfl rfl ?_
        refine AL.all hX kLB_ok rfl trivial ?_
        (repeat (first | refine AWP.seq ?_ | refine AWP.block ?_))
        (repeat (first | refine AWP.seq ?_ | refine AWP.skip ?_ | refine AWP.block ?_ | refine AWP.exit ?_)); refine AWP.region hX kLB_ok rfl ?_ ?_
        · exact ⟨rfl, (show (0 : Int) ≤ ((14 : Nat) : Int) by decide), (show ((14 : Nat) : Int) < 17 by decide)⟩
        refine AWP.cond rfl (fun hb => absurd (show false = true from hb) (by decide)) (fun _ => ?_)
        refine AWP.seq ?_
        refine AWP.list ?_
        refine AL.take 1 hX kLB_ok rfl trivial ?_
        refine AL.nilP ptrEq (.inr ⟨rfl, rfl⟩) rfl rfl rfl rfl rfl rfl ?_
        refine AL.all hX kLB_ok rfl trivial ?_
        refine AWP.cond rfl (fun hb => absurd (show false = true from hb) (by decide)) (fun _ => ?_)
        refine AWP.list ?_
        refine AL.take 1 hX kLB_ok rfl trivial ?_
        refine AL.getA fnArr fnV rfl rfl rfl rfl rfl rfl rfl rfl rfl rfl rfl 14 (by decide) rfl rfl rfl ?_
        refine AL.methCall hX rfl wWin_ok rfl rfl rfl (.tmp 5) rfl rfl rfl rfl rfl rfl rfl rfl trivial ⟨hok, hlen 14 (by decide)⟩ (fun _ _ _ _ => trivial) (fun _ => rfl) ?_
        refine AL.nil ?_
        refine AWP.region hX kLB_ok rfl (inR_small (by decide) (by decide)) ?_
        exact ⟨15, by omega, by omega, ⟨rfl, rfl, rfl, rfl, rfl, trivial⟩, ⟨rfl, bufEq (outL_succ _ 14).symm, rfl, trivial⟩, rfl, rfl⟩
      · refine AWP.list ?_
        refine AL.take 1 hX kLB_ok rfl trivial ?_
        refine AL.idxH ptrArr rfl rfl rfl rfl 15 rfl rfl rfl rfl rfl ?_
        refine AL.all hX kLB_ok rfl trivial ?_
        (repeat (first | refine AWP.seq ?_ | refine AWP.block ?_))
        (repeat (first | refine AWP.seq ?_ | refine AWP.skip ?_ | refine AWP.block ?_ | refine AWP.exit ?_)); refine AWP.region hX kLB_ok rfl ?_ ?_
        · exact ⟨rfl, (show (0 : Int) ≤ ((15 : Nat) : Int) by decide), (show ((15 : Nat) : Int) < 17 by decide)⟩
        refine AWP.cond rfl (fun hb => absurd (show false = true from hb) (by decide)) (fun _ => ?_)
        refine AWP.seq ?_
        refine AWP.list ?_
        refine AL.take 1 hX kLB_ok rfl trivial ?_
        refine AL.nilP ptrEq (.inr ⟨rfl, rfl⟩) rfl rfl rfl rfl rfl rfl ?_
        refine AL.all hX kLB_ok rfl trivial ?_
        refine AWP.cond rfl (fun hb => absurd (show false = true from hb) (by decide)) (fun _ => ?_)
        refine AWP.list ?_
        refine AL.take 1 hX kLB_ok rfl trivial ?_
        refine AL.getA fnArr fnV rfl rfl rfl rfl rfl rfl rfl rfl rfl rfl rfl 15 (by decide) rfl rfl rfl ?_
        refine AL.methCall hX rfl wCel_ok rfl rfl rfl (.tmp 5) rfl rfl rfl rfl rfl rfl rfl rfl trivial ⟨hok, hlen 15 (by decide)⟩ (fun _ _ _ _ => trivial) (fun _ => rfl) ?_
        refine AL.nil ?_
        refine AWP.region hX kLB_ok rfl (inR_small (by decide) (by decide)) ?_
        exact ⟨16, by omega, by omega, ⟨rfl, rfl, rfl, rfl, rfl, trivial⟩, ⟨rfl, bufEq (outL_succ _ 15).symm, rfl, trivial⟩, rfl, rfl⟩
      · refine AWP.list ?_
        refine AL.take 1 hX kLB_ok rfl trivial ?_
        refine AL.idxH ptrArr rfl rfl rfl rfl 16 rfl rfl rfl rfl rfl ?_
        refine AL.all hX kLB_ok rfl trivial ?_
        (repeat (first | refine AWP.seq ?_ | refine AWP.block ?_))
        (repeat (first | refine AWP.seq ?_ | refine AWP.skip ?_ | refine AWP.block ?_ | refine AWP.exit ?_)); refine AWP.region hX kLB_ok rfl ?_ ?_
        · exact ⟨rfl, (show (0 : Int) ≤ ((16 : Nat) : Int) by decide), (show ((16 : Nat) : Int) < 17 by decide)⟩
        refine AWP.cond rfl (fun hb => absurd (show false = true from hb) (by decide)) (fun _ => ?_)
        refine AWP.seq ?_
        refine AWP.list ?_
        refine AL.take 1 hX kLB_ok rfl trivial ?_
        refine AL.nilP ptrEq (.inr ⟨rfl, rfl⟩) rfl rfl rfl rfl rfl rfl ?_
        refine AL.all hX kLB_ok rfl trivial ?_
        refine AWP.cond rfl (fun hb => absurd (show false = true from hb) (by decide)) (fun _ => ?_)
        refine AWP.list ?_
        refine AL.take 1 hX kLB_ok rfl trivial ?_
        refine AL.getA fnArr fnV rfl rfl rfl rfl rfl rfl rfl rfl rfl rfl rfl 16 (by decide) rfl rfl rfl ?_
        refine AL.methCall hX rfl wRef_ok rfl rfl rfl (.tmp 5) rfl rfl rfl rfl rfl rfl rfl rfl trivial ⟨hok, hlen 16 (by decide)⟩ (fun _ _ _ _ => trivial) (fun _ => rfl) ?_
        refine AL.nil ?_
        refine AWP.region hX kLB_ok rfl (inR_small (by decide) (by decide)) ?_
        exact ⟨17, by omega, by omega, ⟨rfl, rfl, rfl, rfl, rfl, trivial⟩, ⟨rfl, bufEq (outL_succ _ 16).symm, rfl, trivial⟩, rfl, rfl⟩
    · have hb : decide ((k : Int) < 17) = false := hb
      have hb := of_decide_eq_false hb
      have hkl : k = 17 := by omega
      subst hkl
      refine AWP.exit ?_
      refine AWP.seq ?_
      refine AWP.list ?_
      refine AL.take 2 hX kLB_ok rfl trivial ?_
      refine AL.step (eqF1 _ _ rfl) hX kLB_ok rfl trivial ?_
      refine AL.all hX kLB_ok rfl trivial ?_
      refine AWP.frz hX 2 ?_
      exact AWP.ret ⟨.inr rfl, done2 (by decide) rfl rfl trivial rfl⟩
end Go.Proofs.YtbbeldmcdjjnbaaDoor
