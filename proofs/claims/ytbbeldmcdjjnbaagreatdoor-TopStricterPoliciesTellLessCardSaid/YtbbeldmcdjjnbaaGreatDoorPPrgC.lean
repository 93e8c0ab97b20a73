/-
  Package policy: together, Stricter.
  Grow, Concat; package policy: Stricter.
-/
import Derived.Test.YtbbeldmcdjjnbaaGreatDoorPPrgB
import Derived.Lib.AppendZeros
namespace Go.Proofs.YtbbeldmcdjjnbaaGreatDoor
open Go Go.RowKit
set_option linter.unusedSimpArgs false
set_option linter.unusedVariables false
set_option maxRecDepth 100000
def oV (o : Oc) : Int := o.1
def oN (o : Oc) : Int := o.2.1
def oW (o : Oc) : List Int := o.2.2.1
def zO : Oc := (0, 0, [], ())
def tog (x y : Oc) : Bool := decide (oN x ∉ oW y) && decide (oN y ∉ oW x)
def cTog : Ctr := { args := [oc, oc], pre := fun _ => [], res := .bool, own := none, out := fun x => tog x.1 x.2.1 }
theorem together_ok : CtrOk Tryz.prog pG 20 cTog := by
  refine ctr_of_awp (K := kQG) kQG_ok Tryz.func20 rfl rfl Tryz.call20 rfl (by decide) (by intro h; cases h) ?_
  rintro w0 X hX ⟨⟨(v1 : Int), (n1 : Int), (w1 : List Int), _⟩, ⟨(v2 : Int), (n2 : Int), (w2 : List Int), _⟩, _⟩ hp
  change AWP _ _ _ _ _ ⟨[(0, ⟨oc, (v1, n1, w1, ())⟩), (1, ⟨oc, (v2, n2, w2, ())⟩)], [], 0⟩ _
  (repeat (first | refine AWP.seq ?_ | refine AWP.skip ?_ | refine AWP.label ?_ | refine AWP.exit ?_ | refine AWP.block ?_ | refine AWP.region hX kQG_ok rfl trivial ?_ | refine AWP.region hX kQG_ok rfl id ?_ | refine AWP.region hX kQG_ok rfl ⟨id, id⟩ ?_))
  (repeat (first | refine AWP.seq ?_ | refine AWP.skip ?_ | refine AWP.block ?_ | refine AWP.exit ?_)); refine AWP.region hX kQG_ok rfl ?_ ?_
  · repeat' (first | exact trivial | assumption | (refine ⟨?_, ?_⟩) | (intro _) | exact Nat.le_of_ble_eq_true rfl | exact Int.natCast_nonneg _ | (simp_all [allP]; done))
  refine AWP.ret ⟨.inr rfl, done1 rfl trivial rfl rfl ?_⟩
  show (bif !decide (n1 ∈ w2) then !decide (n2 ∈ w1) else false) = tog (v1, n1, w1, ()) (v2, n2, w2, ())
  show _ = (decide (n1 ∉ w2) && decide (n2 ∉ w1))
  by_cases h1 : n1 ∈ w2 <;> by_cases h2 : n2 ∈ w1 <;> simp [h1, h2]
def kQL : Kn := { pK with C := [(20, cTog)] }
theorem kQL_ok : KnOk Tryz.prog pG kQL := pK_ok.with (.cons together_ok .nil)
/-- the outcome x gives more than y, and both may come of one set of teams -/
def overO (x y : Oc) : Bool := decide (oV x > oV y) && tog x y
def cStr1 : Ctr := { args := [oc, .vptr oc], pre := fun _ => [], res := .bool, own := none, out := fun x => overO x.2.1 x.1 }
theorem stricter1_ok : CtrOk Tryz.prog pG 19 cStr1 := by
  refine ctr_of_awp (K := kQL) kQL_ok Tryz.func19 rfl rfl Tryz.call19 rfl (by decide) (by intro h; cases h) ?_
  rintro w0 X hX ⟨⟨(v2 : Int), (n2 : Int), (w2 : List Int), _⟩, ⟨(v1 : Int), (n1 : Int), (w1 : List Int), _⟩, _⟩ hp
  change AWP _ _ _ _ _ ⟨[(0, ⟨oc, (v2, n2, w2, ())⟩), (1, ⟨.vptr oc, (v1, n1, w1, ())⟩)], [], 0⟩ _
  (repeat (first | refine AWP.seq ?_ | refine AWP.skip ?_ | refine AWP.label ?_ | refine AWP.exit ?_ | refine AWP.block ?_ | refine AWP.region hX kQL_ok rfl trivial ?_ | refine AWP.region hX kQL_ok rfl id ?_ | refine AWP.region hX kQL_ok rfl ⟨id, id⟩ ?_))
  (repeat (first | refine AWP.seq ?_ | refine AWP.skip ?_ | refine AWP.block ?_ | refine AWP.exit ?_)); refine AWP.region hX kQL_ok rfl ?_ ?_
  · repeat' (first | exact trivial | assumption | (refine ⟨?_, ?_⟩) | (intro _) | exact Nat.le_of_ble_eq_true rfl | exact Int.natCast_nonneg _ | (simp_all [allP]; done))
  refine AWP.ret ⟨.inr rfl, done1 rfl trivial rfl rfl ?_⟩
  show (bif decide (v1 > v2) then tog (v1, n1, w1, ()) (v2, n2, w2, ()) else false) = overO (v1, n1, w1, ()) (v2, n2, w2, ())
  show _ = (decide (v1 > v2) && _)
  cases decide (v1 > v2) <;> rfl
abbrev capP1 : Ty := .tup (.vptr oc) .unit
def cIdxO : Ctr := { args := [.slice oc, .clo 19 capP1], pre := fun _ => [], res := i64, own := none, out := fun x => idx (overO x.2.1.1) x.1 }
def kQM : Kn := { pK with C := [(19, cStr1)] }
theorem kQM_ok : KnOk Tryz.prog pG kQM := pK_ok.with (.cons stricter1_ok .nil)
theorem idxO_ok : CtrOk Tryz.prog pG 39 cIdxO := by
  refine ctr_of_awp (K := kQM) kQM_ok Tryz.func39 rfl rfl Tryz.call39 rfl (by decide) (by intro h; cases h) ?_
  rintro w0 X hX ⟨(l : List Oc), ⟨(x : Oc), _⟩, _⟩ hp
  change AWP _ _ _ _ _ ⟨[(0, ⟨.slice oc, l⟩), (1, ⟨.clo 19 capP1, (x, ())⟩)], [], 0⟩ _
  refine AWP.len 0 rfl fun hl => ?_
  unfold maxLen at hl
  (repeat (first | refine AWP.seq ?_ | refine AWP.skip ?_ | refine AWP.label ?_ | refine AWP.exit ?_ | refine AWP.block ?_ | refine AWP.region hX kQM_ok rfl trivial ?_ | refine AWP.region hX kQM_ok rfl id ?_ | refine AWP.region hX kQM_ok rfl ⟨id, id⟩ ?_))
  refine AWP.loop (ι := Nat) (fun k => ⟨[(0, ⟨.slice oc, l⟩), (1, ⟨.clo 19 capP1, (x, ())⟩), (7, ⟨i64, ((l.length : Nat) : Int)⟩), (8, ⟨i64, (k : Int)⟩)], [], 0⟩) (fun k => k ≤ l.length ∧ ∀ j (hj : j < l.length), j < k → overO x l[j] = false) (fun k => l.length - k) 0 ⟨by omega, by omega⟩ ⟨⟨rfl, rfl, rfl, rfl, trivial⟩, trivial, rfl, rfl⟩ ?_
  rintro k ⟨hk, hn⟩
  (repeat (first | refine AWP.seq ?_ | refine AWP.skip ?_ | refine AWP.block ?_ | refine AWP.exit ?_)); refine AWP.region hX kQM_ok rfl ?_ ?_
  · trivial
  refine AWP.seq ?_
  refine AWP.cond rfl (fun hb => ?_) (fun hb => ?_)
  · have hb : decide ((k : Int) < (l.length : Nat)) = true := hb
    have hb := of_decide_eq_true hb
    have hlt : k < l.length := by omega
    have n0 : (0 : Int) ≤ (k : Int) := by omega
    (repeat (first | refine AWP.seq ?_ | refine AWP.skip ?_ | refine AWP.block ?_ | refine AWP.exit ?_)); refine AWP.region hX kQM_ok rfl ?_ ?_
    · trivial
    (repeat (first | refine AWP.seq ?_ | refine AWP.skip ?_ | refine AWP.block ?_ | refine AWP.exit ?_)); refine AWP.region hX kQM_ok rfl ?_ ?_
    · exact ⟨n0, hb⟩
    refine AWP.cond rfl (fun hb => ?_) (fun hb => ?_)
    · have hc : overO x (l.getD (k : Int).toNat zO) = true := hb
      rw [getD_at hlt] at hc
      (repeat (first | refine AWP.seq ?_ | refine AWP.skip ?_ | refine AWP.label ?_ | refine AWP.exit ?_ | refine AWP.block ?_ | refine AWP.region hX kQM_ok rfl trivial ?_ | refine AWP.region hX kQM_ok rfl id ?_ | refine AWP.region hX kQM_ok rfl ⟨id, id⟩ ?_))
      refine AWP.ret ⟨.inr rfl, done1 rfl trivial rfl rfl ?_⟩
      show (k : Int) = idx _ l
      exact (idx_some hlt hc fun j hj => hn j _ hj).symm
    · have hc : overO x (l.getD (k : Int).toNat zO) = false := hb
      rw [getD_at hlt] at hc
      (repeat (first | refine AWP.seq ?_ | refine AWP.skip ?_ | refine AWP.block ?_ | refine AWP.exit ?_)); refine AWP.region hX kQM_ok rfl ?_ ?_
      · exact inR_succ (by omega)
      exact ⟨k + 1, ⟨by omega, fun j hj hlt => by
        by_cases e : j = k
        · subst e; exact hc
        · exact hn j hj (by omega)⟩, by omega, ⟨rfl, rfl, rfl, vSucc _, trivial⟩, trivial, rfl, rfl⟩
  · have hb : decide ((k : Int) < (l.length : Nat)) = false := hb
    have hb := of_decide_eq_false hb
    have : k = l.length := by omega
    subst this
    (repeat (first | refine AWP.seq ?_ | refine AWP.skip ?_ | refine AWP.label ?_ | refine AWP.exit ?_ | refine AWP.block ?_ | refine AWP.region hX kQM_ok rfl trivial ?_ | refine AWP.region hX kQM_ok rfl id ?_ | refine AWP.region hX kQM_ok rfl ⟨id, id⟩ ?_))
    refine AWP.ret ⟨.inr rfl, done1 rfl trivial rfl rfl ?_⟩
    show (-1 : Int) = idx _ l
    exact (idx_none fun j hj => hn j hj hj).symm
def cAnyO : Ctr := { args := [.slice oc, .clo 19 capP1], pre := fun _ => [], res := .bool, own := none, out := fun x => List.any x.1 (overO x.2.1.1) }
def kQN : Kn := { pK with C := [(39, cIdxO)] }
theorem kQN_ok : KnOk Tryz.prog pG kQN := pK_ok.with (.cons idxO_ok .nil)
theorem anyO_ok : CtrOk Tryz.prog pG 18 cAnyO := by
  refine ctr_of_awp (K := kQN) kQN_ok Tryz.func18 rfl rfl Tryz.call18 rfl (by decide) (by intro h; cases h) ?_
  rintro w0 X hX ⟨(l : List Oc), ⟨(x : Oc), _⟩, _⟩ hp
  change AWP _ _ _ _ _ ⟨[(0, ⟨.slice oc, l⟩), (1, ⟨.clo 19 capP1, (x, ())⟩)], [], 0⟩ _
  (repeat (first | refine AWP.seq ?_ | refine AWP.skip ?_ | refine AWP.label ?_ | refine AWP.exit ?_ | refine AWP.block ?_ | refine AWP.region hX kQN_ok rfl trivial ?_ | refine AWP.region hX kQN_ok rfl id ?_ | refine AWP.region hX kQN_ok rfl ⟨id, id⟩ ?_))
  refine AWP.ret ⟨.inr rfl, done1 rfl trivial rfl rfl ?_⟩
  exact idx_any _ l
end Go.Proofs.YtbbeldmcdjjnbaaGreatDoor
namespace Go.Proofs.YtbbeldmcdjjnbaaGreatDoor
open Go Go.RowKit
set_option linter.unusedSimpArgs false
set_option linter.unusedVariables false
set_option maxRecDepth 100000
theorem gr_info : ∃ i z, Tryz.prog.info? 66 = some i ∧ i.zero = some z ∧ i.size = 5 ∧ i.bytes = 40 ∧ z.cells.size = 5 := ⟨_, _, rfl, rfl, rfl, rfl, rfl⟩
theorem zeroCells_len (c : Array Value) (n : Nat) : (Builtin.zeroCells c n).size = n * c.size := by
  unfold Builtin.zeroCells
  simp
theorem grow_call (n : Nat) (hn : n ≤ 1000) (w : World) : Calls Tryz.prog 35 #[.slice none 0 0, .int .i64 n] w fun e w' =>
    (e = .returned (.slice none 0 0) ∧ w' = w) ∨ ∃ cap cs, cs.size = cap * 5 ∧ cap ≤ maxLen ∧ e = .returned (.slice (some ⟨w.heap.size, 0, none⟩) 0 cap) ∧ w' = w.drew.alloc (.cells cs 66) := by
  obtain ⟨i, z, h1, h2, h3, h4, h5⟩ := gr_info
  by_cases h0 : n = 0
  · subst h0
    go_enter Tryz.func35, Tryz.ntmps35
    go_wp2
    go_ret
    exact .inl ⟨rfl, rfl⟩
  · have hrz : ∀ ty, (Builtin.append_ #[22, 3] ty #[.slice none 0 0, .int .i64 n]).run Tryz.prog w = _ := fun ty => Lib.run_append_nil_zeros w 22 3 ty 66 i z .i64 .i64 (by kernel_rfl) (by kernel_rfl) h1 h2 n (by omega) (by omega) (by omega) (by rw [h4]; omega)
    have hge := grownCap_ge w n 0 66
    have hle := grownCap_le_maxLen w n 0 66 (by unfold maxLen; omega)
    have hsz : (Builtin.zeroCells z.cells n ++ Builtin.zeroCells z.cells (grownCap w n 0 66 - n)).size = grownCap w n 0 66 * 5 := by
      rw [Array.size_append, zeroCells_len, zeroCells_len, h5, ← Nat.add_mul]
      congr 1
      omega
    have hp1 : ¬ ((n : Int) < 0) := by omega
    have hp2 : (n : Int) > 0 := by omega
    have hw : wrap64 ((n : Int) - 0) = (n : Int) := by unfold wrap64; omega
    generalize grownCap w n 0 66 = G at *
    generalize z.cells = zc at *
    have hG63 : G ≤ 9223372036854775807 := hle
    go_enter Tryz.func35, Tryz.ntmps35
    go_wp2_with (at_builtin; refine Lib.wpList_append_run _ rfl _ _ _ _ rfl _ _ rfl rfl _ _ (hrz _) ?_)
    all_goals (go_ret; exact .inr ⟨G, _, hsz, hle, rfl, rfl⟩)
def cGrow : Ctr := { args := [.lit, i64], pre := fun x => [x.1 = .slice none 0 0, 0 ≤ x.2.1, x.2.1 ≤ 1000], res := .slice gr, own := some 66, out := fun _ => [] }
theorem grow_ok : CtrOk Tryz.prog pG 35 cGrow := by
  refine ⟨Tryz.call35, fun w O xs vs hO hr hp hG => ?_⟩
  obtain ⟨(x : Value), (n : Int), _⟩ := xs
  obtain ⟨h1, h2, h3⟩ : x = .slice none 0 0 ∧ 0 ≤ n ∧ n ≤ 1000 := hp
  obtain ⟨m, rfl⟩ := Int.eq_ofNat_of_zero_le h2
  subst h1
  have hvs : vs = [.slice none 0 0, .int .i64 m] := by
    obtain ⟨v1, r1, rfl, e1, v2, r2, rfl, e2, rfl⟩ := hr
    have e1 : v1 = _ := e1
    have e2 : [v2] = [Value.int .i64 (m : Int)] := e2
    cases e2
    rw [e1]
  subst hvs
  refine (grow_call m (by omega) w).mono ?_
  rintro e w' (⟨rfl, rfl⟩ | ⟨cap, cs, h4, h5, rfl, rfl⟩)
  · refine ⟨_, rfl, Below.refl _ _, [], rfl, World.ownsRow_nil _ _ _ _, by decide⟩
  · refine ⟨_, rfl, ((Below.refl _ _).drew).alloc (Nat.le_refl _) _, [], rfl, ⟨rfl, .inr ⟨w.heap.size, cap, cs, rfl, Nat.le_refl _, ?_, Nat.zero_le _, h5, h4, rfl⟩⟩, by decide⟩
    exact Array.getElem?_push_size
theorem flatG_take (l : List (List Gt)) (k : Nat) (h : k < l.length) : (l.take (k + 1)).flatten = (l.take k).flatten ++ l.getD k [] := by
  rw [List.take_succ_eq_append_getElem h, List.flatten_append, List.getD_eq_getElem?_getD, List.getElem?_eq_getElem h]
  simp
theorem flatG_le (l : List (List Gt)) (k : Nat) : (l.take k).flatten.length ≤ l.flatten.length := by
  have : l.flatten = (l.take k).flatten ++ (l.drop k).flatten := by rw [← List.flatten_append, List.take_append_drop]
  rw [this, List.length_append]
  omega
def cConcat : Ctr := { args := [.slice (.slice gr)], pre := fun x => [(List.flatten x.1).length ≤ 1000], res := .slice gr, own := none, out := fun x => List.flatten x.1 }
def kQO : Kn := { pK with C := [(35, cGrow)] }
theorem kQO_ok : KnOk Tryz.prog pG kQO := pK_ok.with (.cons grow_ok .nil)
theorem concat_ok : CtrOk Tryz.prog pG 16 cConcat := by
  refine ctr_of_awp (K := kQO) kQO_ok Tryz.func16 rfl rfl Tryz.call16 rfl (by decide) (by intro h; cases h) ?_
  rintro w0 X hX ⟨(l : List (List Gt)), _⟩ hp
  have hp : l.flatten.length ≤ 1000 := hp
  change AWP _ _ _ _ _ ⟨[(0, ⟨.slice (.slice gr), l⟩)], [], 0⟩ _
  refine AWP.len 0 rfl fun hl => ?_
  unfold maxLen at hl
  (repeat (first | refine AWP.seq ?_ | refine AWP.skip ?_ | refine AWP.label ?_ | refine AWP.exit ?_ | refine AWP.block ?_ | refine AWP.region hX kQO_ok rfl trivial ?_ | refine AWP.region hX kQO_ok rfl id ?_ | refine AWP.region hX kQO_ok rfl ⟨id, id⟩ ?_))
  refine AWP.loop (ι := Nat) (fun k => ⟨[(0, ⟨.slice (.slice gr), l⟩), (3, ⟨i64, (((l.take k).flatten.length : Nat) : Int)⟩), (9, ⟨.slice (.slice gr), l⟩), (10, ⟨i64, ((l.length : Nat) : Int)⟩), (11, ⟨i64, (k : Int)⟩)], [], 0⟩) (fun k => k ≤ l.length) (fun k => l.length - k) 0 (by omega) ⟨⟨rfl, rfl, rfl, rfl, rfl, trivial⟩, trivial, rfl, rfl⟩ ?_
  intro k hk
  (repeat (first | refine AWP.seq ?_ | refine AWP.skip ?_ | refine AWP.block ?_ | refine AWP.exit ?_)); refine AWP.region hX kQO_ok rfl ?_ ?_
  · trivial
  refine AWP.seq ?_
  refine AWP.cond rfl (fun hb => ?_) (fun hb => ?_)
  · have hb : decide ((k : Int) < (l.length : Nat)) = true := hb
    have hb := of_decide_eq_true hb
    have hlt : k < l.length := by omega
    have hf := flatG_take l k hlt
    have hle := flatG_le l (k + 1)
    rw [hf, List.length_append] at hle
    (repeat (first | refine AWP.seq ?_ | refine AWP.skip ?_ | refine AWP.block ?_ | refine AWP.exit ?_)); refine AWP.region hX kQO_ok rfl ?_ ?_
    · exact ⟨by omega, by show (k : Int) < (l.length : Nat); omega⟩
    refine AWP.fit (σ' := ⟨[(0, ⟨.slice (.slice gr), l⟩), (3, ⟨i64, (((l.take k).flatten.length : Nat) : Int)⟩), (5, ⟨.slice gr, l.getD k []⟩), (9, ⟨.slice (.slice gr), l⟩), (10, ⟨i64, ((l.length : Nat) : Int)⟩), (11, ⟨i64, (k : Int)⟩)], [], 0⟩) ⟨⟨rfl, rfl, vGrs (by rw [← Int.toNat_natCast k]; rfl), rfl, rfl, rfl, trivial⟩, trivial, rfl, rfl⟩ ?_
    (repeat (first | refine AWP.seq ?_ | refine AWP.skip ?_ | refine AWP.block ?_ | refine AWP.exit ?_)); refine AWP.region hX kQO_ok rfl ?_ ?_
    · exact inR_small (by show _ ≤ (((l.take k).flatten.length : Nat) : Int) + ((l.getD k []).length : Nat); omega) (by show (((l.take k).flatten.length : Nat) : Int) + ((l.getD k []).length : Nat) ≤ _; omega)
    (repeat (first | refine AWP.seq ?_ | refine AWP.skip ?_ | refine AWP.label ?_ | refine AWP.exit ?_ | refine AWP.block ?_ | refine AWP.region hX kQO_ok rfl trivial ?_ | refine AWP.region hX kQO_ok rfl id ?_ | refine AWP.region hX kQO_ok rfl ⟨id, id⟩ ?_))
    refine AWP.cond rfl (fun hb => ?_) (fun hb => ?_)
    · have hc : decide ((((l.take k).flatten.length : Nat) : Int) + ((l.getD k []).length : Nat) < 0) = true := hb
      have hc := of_decide_eq_true hc
      omega
    (repeat (first | refine AWP.seq ?_ | refine AWP.skip ?_ | refine AWP.block ?_ | refine AWP.exit ?_)); refine AWP.region hX kQO_ok rfl ?_ ?_
    · exact inR_succ (by omega)
    exact ⟨k + 1, by omega, by omega, ⟨rfl, vI64 (by rw [hf, List.length_append]; show (((l.take k).flatten.length : Nat) : Int) + ((l.getD k []).length : Nat) = _; omega), rfl, rfl, vSucc _, trivial⟩, trivial, rfl, rfl⟩
  have hb : decide ((k : Int) < (l.length : Nat)) = false := hb
  have hb := of_decide_eq_false hb
  have : k = l.length := by omega
  subst this
  rw [List.take_length]
  (repeat (first | refine AWP.seq ?_ | refine AWP.skip ?_ | refine AWP.block ?_ | refine AWP.exit ?_)); refine AWP.region hX kQO_ok rfl ?_ ?_
  · exact ⟨rfl, by show (0 : Int) ≤ ((l.flatten.length : Nat) : Int); omega, by show ((l.flatten.length : Nat) : Int) ≤ 1000; omega⟩
  (repeat (first | refine AWP.seq ?_ | refine AWP.skip ?_ | refine AWP.label ?_ | refine AWP.exit ?_ | refine AWP.block ?_ | refine AWP.region hX kQO_ok rfl trivial ?_ | refine AWP.region hX kQO_ok rfl id ?_ | refine AWP.region hX kQO_ok rfl ⟨id, id⟩ ?_))
  refine AWP.loop (ι := Nat) (fun k => ⟨[(0, ⟨.slice (.slice gr), l⟩), (6, ⟨.obuf gr, (0 : Nat)⟩), (25, ⟨.slice (.slice gr), l⟩), (26, ⟨i64, ((l.length : Nat) : Int)⟩), (27, ⟨i64, (k : Int)⟩)], [(0, some (.buf 66 gr (l.take k).flatten))], 1⟩) (fun k => k ≤ l.length) (fun k => l.length - k) 0 (by omega) ⟨⟨rfl, rfl, rfl, rfl, rfl, trivial⟩, ⟨rfl, trivial⟩, rfl, rfl⟩ ?_
  intro k hk
  (repeat (first | refine AWP.seq ?_ | refine AWP.skip ?_ | refine AWP.block ?_ | refine AWP.exit ?_)); refine AWP.region hX kQO_ok rfl ?_ ?_
  · trivial
  refine AWP.seq ?_
  refine AWP.cond rfl (fun hb => ?_) (fun hb => ?_)
  · have hb : decide ((k : Int) < (l.length : Nat)) = true := hb
    have hb := of_decide_eq_true hb
    have hlt : k < l.length := by omega
    have hf := flatG_take l k hlt
    have hle := flatG_le l (k + 1)
    rw [hf, List.length_append] at hle
    (repeat (first | refine AWP.seq ?_ | refine AWP.skip ?_ | refine AWP.block ?_ | refine AWP.exit ?_)); refine AWP.region hX kQO_ok rfl ?_ ?_
    · exact ⟨by omega, by show (k : Int) < (l.length : Nat); omega⟩
    refine AWP.fit (σ' := ⟨[(0, ⟨.slice (.slice gr), l⟩), (6, ⟨.obuf gr, (0 : Nat)⟩), (8, ⟨.slice gr, l.getD k []⟩), (25, ⟨.slice (.slice gr), l⟩), (26, ⟨i64, ((l.length : Nat) : Int)⟩), (27, ⟨i64, (k : Int)⟩)], [(0, some (.buf 66 gr (l.take k).flatten))], 1⟩) ⟨⟨rfl, rfl, vGrs (by rw [← Int.toNat_natCast k]; rfl), rfl, rfl, rfl, trivial⟩, ⟨rfl, trivial⟩, rfl, rfl⟩ ?_
    (repeat (first | refine AWP.seq ?_ | refine AWP.skip ?_ | refine AWP.block ?_ | refine AWP.exit ?_)); refine AWP.region hX kQO_ok rfl ?_ ?_
    · show (l.take k).flatten.length + (l.getD k []).length ≤ 1000000000
      omega
    (repeat (first | refine AWP.seq ?_ | refine AWP.skip ?_ | refine AWP.block ?_ | refine AWP.exit ?_)); refine AWP.region hX kQO_ok rfl ?_ ?_
    · exact inR_succ (by omega)
    exact ⟨k + 1, by omega, by omega, ⟨rfl, rfl, rfl, rfl, vSucc _, trivial⟩, ⟨bufGr hf.symm, trivial⟩, rfl, rfl⟩
  · have hb : decide ((k : Int) < (l.length : Nat)) = false := hb
    have hb := of_decide_eq_false hb
    have : k = l.length := by omega
    subst this
    rw [List.take_length]
    refine AWP.frz hX 6 ?_
    (repeat (first | refine AWP.seq ?_ | refine AWP.skip ?_ | refine AWP.label ?_ | refine AWP.exit ?_ | refine AWP.block ?_ | refine AWP.region hX kQO_ok rfl trivial ?_ | refine AWP.region hX kQO_ok rfl id ?_ | refine AWP.region hX kQO_ok rfl ⟨id, id⟩ ?_))
    exact AWP.ret ⟨.inr rfl, done1 rfl trivial rfl rfl rfl⟩
/-- what package policy computes: people that occur, acts, outcomes on both sides -/
def pstr (l m : List Gt) : Bool := decide (OkP l) && decide (OkP m) && ((-2 : Int) :: (l ++ m).map gP).all fun p => [1, 2, 3].all fun a => (outs l a p).all fun x => !(outs m a p).any (overO x)
def cPStr : Ctr := { args := [po, po], pre := fun _ => [], res := .bool, own := none, out := fun x => pstr x.1.1 x.2.1.1 }
def kQP : Kn := { pK with C := [(15, cValid), (16, cConcat), (17, cOuts), (18, cAnyO)] }
theorem kQP_ok : KnOk Tryz.prog pG kQP := pK_ok.with (.cons valid_ok (.cons concat_ok (.cons outcomes_ok (.cons anyO_ok .nil))))
/-- for a person: no outcome of an act below c gives more on the left side -/
def okA (l m : List Gt) (p : Int) (c : Nat) : Prop := ∀ a : Nat, 1 ≤ a → a < c → ∀ x ∈ outs l (a : Int) p, (outs m (a : Int) p).any (overO x) = false
theorem pstr_iff {l m : List Gt} (hok : OkP l ∧ OkP m) {P : List Int} (hP : ((-2 : Int) :: (l ++ m).map gP) = P) : pstr l m = true ↔ ∀ p ∈ P, okA l m p 4 := by
  unfold pstr
  rw [decide_eq_true hok.1, decide_eq_true hok.2, hP]
  show (P.all _) = true ↔ _
  rw [List.all_eq_true]
  refine forall_congr' fun p => imp_congr Iff.rfl ?_
  rw [List.all_eq_true]
  constructor
  · intro h a h1 h2 x hx
    have ha : (a : Int) ∈ ([1, 2, 3] : List Int) := by
      have : a = 1 ∨ a = 2 ∨ a = 3 := by omega
      rcases this with rfl | rfl | rfl <;> simp
    have := h _ ha
    rw [List.all_eq_true] at this
    have := this x hx
    simpa using this
  · intro h a ha
    rw [List.all_eq_true]
    intro x hx
    obtain ⟨c, hc1, hc2, rfl⟩ : ∃ c : Nat, 1 ≤ c ∧ c < 4 ∧ a = (c : Int) := by
      rcases List.mem_cons.1 ha with rfl | ha
      · exact ⟨1, by omega, by omega, rfl⟩
      rcases List.mem_cons.1 ha with rfl | ha
      · exact ⟨2, by omega, by omega, rfl⟩
      rcases List.mem_cons.1 ha with rfl | ha
      · exact ⟨3, by omega, by omega, rfl⟩
      cases ha
    rw [h c hc1 hc2 x hx]
    rfl
theorem mem_takeO {l : List Oc} {x : Oc} {k : Nat} (hk : k < l.length) : x ∈ l.take (k + 1) ↔ x ∈ l.take k ∨ l[k] = x := by
  rw [List.take_succ_eq_append_getElem hk, List.mem_append, List.mem_singleton]
  exact or_congr Iff.rfl eq_comm
theorem vOcs {x y : List Oc} (h : x = y) : (⟨.slice oc, x⟩ : V) = ⟨.slice oc, y⟩ := by rw [h]
theorem boxOc {x y : Oc} (h : x = y) : some (OObj.box oc x) = some (OObj.box oc y) := by rw [h]
theorem stricter_ok : CtrOk Tryz.prog pG 6 cPStr := by
  refine ctr_of_awp (K := kQP) kQP_ok Tryz.func6 rfl rfl Tryz.call6 rfl (by decide) (by intro h; cases h) ?_
  rintro w0 X hX ⟨⟨(l : List Gt), _⟩, ⟨(m : List Gt), _⟩, _⟩ hp
  change AWP _ _ _ _ _ ⟨[(0, ⟨po, (l, ())⟩), (1, ⟨po, (m, ())⟩)], [], 0⟩ _
  (repeat (first | refine AWP.seq ?_ | refine AWP.skip ?_ | refine AWP.label ?_ | refine AWP.exit ?_ | refine AWP.block ?_ | refine AWP.region hX kQP_ok rfl trivial ?_ | refine AWP.region hX kQP_ok rfl id ?_ | refine AWP.region hX kQP_ok rfl ⟨id, id⟩ ?_))
  (repeat (first | refine AWP.seq ?_ | refine AWP.skip ?_ | refine AWP.block ?_ | refine AWP.exit ?_)); refine AWP.region hX kQP_ok rfl ?_ ?_
  · repeat' (first | exact trivial | assumption | (refine ⟨?_, ?_⟩) | (intro _) | exact Nat.le_of_ble_eq_true rfl | exact Int.natCast_nonneg _ | (simp_all [allP]; done))
  refine AWP.cond rfl (fun hb => ?_) (fun hb => ?_)
  · have hb : (bif !decide (OkP l) then true else !decide (OkP m)) = true := hb
    (repeat (first | refine AWP.seq ?_ | refine AWP.skip ?_ | refine AWP.label ?_ | refine AWP.exit ?_ | refine AWP.block ?_ | refine AWP.region hX kQP_ok rfl trivial ?_ | refine AWP.region hX kQP_ok rfl id ?_ | refine AWP.region hX kQP_ok rfl ⟨id, id⟩ ?_))
    refine AWP.ret ⟨.inr rfl, done1 rfl trivial rfl rfl ?_⟩
    show false = pstr l m
    unfold pstr
    cases h1 : decide (OkP l) <;> cases h2 : decide (OkP m) <;> rw [h1, h2] at hb <;> first | rfl | cases hb
  have hb : (bif !decide (OkP l) then true else !decide (OkP m)) = false := hb
  have hok : OkP l ∧ OkP m := by
    constructor
    · refine Classical.byContradiction fun h => ?_
      rw [decide_eq_false h] at hb
      cases hb
    · refine Classical.byContradiction fun h => ?_
      rw [decide_eq_false h] at hb
      cases h1 : decide (OkP l) <;> rw [h1] at hb <;> cases hb
  have hlen : (l ++ m).length ≤ 128 := by have := hok.1.1; have := hok.2.1; rw [List.length_append]; omega
  (repeat (first | refine AWP.seq ?_ | refine AWP.skip ?_ | refine AWP.label ?_ | refine AWP.exit ?_ | refine AWP.block ?_ | refine AWP.region hX kQP_ok rfl trivial ?_ | refine AWP.region hX kQP_ok rfl id ?_ | refine AWP.region hX kQP_ok rfl ⟨id, id⟩ ?_))
  have hfl : [l, m].flatten = l ++ m := by simp
  (repeat (first | refine AWP.seq ?_ | refine AWP.skip ?_ | refine AWP.block ?_ | refine AWP.exit ?_)); refine AWP.region hX kQP_ok rfl ?_ ?_
  · show ([l, m].flatten).length ≤ 1000
    rw [hfl]
    omega
  refine AWP.fit (σ' := ⟨[(2, ⟨.optr po, ⟨0, po, .here⟩⟩), (3, ⟨.optr po, ⟨1, po, .here⟩⟩), (5, ⟨.obuf i64, (2 : Nat)⟩), (27, ⟨.slice gr, l ++ m⟩), (28, ⟨i64, (((l ++ m).length : Nat) : Int)⟩), (29, ⟨i64, (0 : Int)⟩)], [(0, some (.box po (l, ()))), (1, some (.box po (m, ()))), (2, some (.buf 3 i64 [-2]))], 3⟩) ⟨⟨rfl, rfl, rfl, vGrs hfl, vI64 (congrArg (fun z : List Gt => ((z.length : Nat) : Int)) hfl), rfl, trivial⟩, ⟨rfl, rfl, rfl, trivial⟩, rfl, rfl⟩ ?_
  (repeat (first | refine AWP.seq ?_ | refine AWP.skip ?_ | refine AWP.block ?_ | refine AWP.exit ?_));
  refine AWP.loop (ι := Nat) (fun k => ⟨[(2, ⟨.optr po, ⟨0, po, .here⟩⟩), (3, ⟨.optr po, ⟨1, po, .here⟩⟩), (5, ⟨.obuf i64, (2 : Nat)⟩), (27, ⟨.slice gr, l ++ m⟩), (28, ⟨i64, (((l ++ m).length : Nat) : Int)⟩), (29, ⟨i64, (k : Int)⟩)], [(0, some (.box po (l, ()))), (1, some (.box po (m, ()))), (2, some (.buf 3 i64 (-2 :: ((l ++ m).take k).map gP)))], 3⟩) (fun k => k ≤ (l ++ m).length) (fun k => (l ++ m).length - k) 0 (by omega) ⟨⟨rfl, rfl, rfl, rfl, rfl, rfl, trivial⟩, ⟨rfl, rfl, rfl, trivial⟩, rfl, rfl⟩ ?_
  intro k hk
  (repeat (first | refine AWP.seq ?_ | refine AWP.skip ?_ | refine AWP.block ?_ | refine AWP.exit ?_)); refine AWP.region hX kQP_ok rfl ?_ ?_
  · trivial
  refine AWP.seq ?_
  refine AWP.cond rfl (fun hb => ?_) (fun hb => ?_)
  · have hb : decide ((k : Int) < ((l ++ m).length : Nat)) = true := hb
    have hb := of_decide_eq_true hb
    have hlt : k < (l ++ m).length := by omega
    have n0 : (0 : Int) ≤ (k : Int) := by omega
    have hml : (-2 :: ((l ++ m).take k).map gP).length ≤ 1000 := by
      rw [List.length_cons, List.length_map, List.length_take]
      omega
    (repeat (first | refine AWP.seq ?_ | refine AWP.skip ?_ | refine AWP.block ?_ | refine AWP.exit ?_)); refine AWP.region hX kQP_ok rfl ?_ ?_
    · exact ⟨n0, hb⟩
    (repeat (first | refine AWP.seq ?_ | refine AWP.skip ?_ | refine AWP.block ?_ | refine AWP.exit ?_)); refine AWP.region hX kQP_ok rfl ?_ ?_
    · show (-2 :: ((l ++ m).take k).map gP).length + 1 ≤ 1000000000
      omega
    (repeat (first | refine AWP.seq ?_ | refine AWP.skip ?_ | refine AWP.block ?_ | refine AWP.exit ?_)); refine AWP.region hX kQP_ok rfl ?_ ?_
    · exact inR_succ (by omega)
    refine ⟨k + 1, by omega, by omega, ⟨rfl, rfl, rfl, rfl, rfl, vSucc _, trivial⟩, ⟨rfl, rfl, bufInts ?_, trivial⟩, rfl, rfl⟩
    show -2 :: ((l ++ m).take k).map gP ++ [gP ((l ++ m).getD (k : Int).toNat zG)] = _
    rw [getD_at hlt, List.take_succ_eq_append_getElem hlt, List.map_append]
    rfl
  have hb : decide ((k : Int) < ((l ++ m).length : Nat)) = false := hb
  have hb := of_decide_eq_false hb
  have : k = (l ++ m).length := by omega
  subst this
  rw [List.take_length]
  refine AWP.frz hX 5 ?_
  generalize hP : ((-2 : Int) :: (l ++ m).map gP) = P
  have hPl : P.length ≤ 1000 := by
    rw [← hP, List.length_cons, List.length_map]
    omega
  have hiff := pstr_iff hok hP
  clear hP
  (repeat (first | refine AWP.seq ?_ | refine AWP.skip ?_ | refine AWP.label ?_ | refine AWP.exit ?_ | refine AWP.block ?_ | refine AWP.region hX kQP_ok rfl trivial ?_ | refine AWP.region hX kQP_ok rfl id ?_ | refine AWP.region hX kQP_ok rfl ⟨id, id⟩ ?_))
  refine AWP.loop (ι := Nat) (fun i => ⟨[(2, ⟨.optr po, ⟨0, po, .here⟩⟩), (3, ⟨.optr po, ⟨1, po, .here⟩⟩), (39, ⟨ints, P⟩), (40, ⟨i64, ((P.length : Nat) : Int)⟩), (41, ⟨i64, (i : Int)⟩)], [(0, some (.box po (l, ()))), (1, some (.box po (m, ())))], 2⟩) (fun i => i ≤ P.length ∧ ∀ p ∈ P.take i, okA l m p 4) (fun i => P.length - i) 0 ⟨by omega, by simp⟩ ⟨⟨rfl, rfl, rfl, rfl, rfl, trivial⟩, ⟨rfl, rfl, trivial⟩, rfl, rfl⟩ ?_
  rintro i ⟨hi, hall⟩
  (repeat (first | refine AWP.seq ?_ | refine AWP.skip ?_ | refine AWP.block ?_ | refine AWP.exit ?_)); refine AWP.region hX kQP_ok rfl ?_ ?_
  · trivial
  refine AWP.seq ?_
  refine AWP.cond rfl (fun hb => ?_) (fun hb => ?_)
  · have hb : decide ((i : Int) < (P.length : Nat)) = true := hb
    have hb := of_decide_eq_true hb
    have hlt : i < P.length := by omega
    have n0 : (0 : Int) ≤ (i : Int) := by omega
    (repeat (first | refine AWP.seq ?_ | refine AWP.skip ?_ | refine AWP.block ?_ | refine AWP.exit ?_)); refine AWP.region hX kQP_ok rfl ?_ ?_
    · exact ⟨n0, hb⟩
    have hpe : P.getD (i : Int).toNat 0 = P[i] := getD_at hlt
    have hpm : P[i] ∈ P := List.getElem_mem hlt
    have hts : ∀ q, q ∈ P.take (i + 1) ↔ q ∈ P.take i ∨ P[i] = q := fun q => mem_take_succ hlt
    generalize P[i] = pe at hpe hpm hts
    (repeat (first | refine AWP.seq ?_ | refine AWP.skip ?_ | refine AWP.label ?_ | refine AWP.exit ?_ | refine AWP.block ?_ | refine AWP.region hX kQP_ok rfl trivial ?_ | refine AWP.region hX kQP_ok rfl id ?_ | refine AWP.region hX kQP_ok rfl ⟨id, id⟩ ?_))
    refine AWP.loop (ι := Nat) (fun c => ⟨[(2, ⟨.optr po, ⟨0, po, .here⟩⟩), (3, ⟨.optr po, ⟨1, po, .here⟩⟩), (9, ⟨i64, pe⟩), (10, ⟨i64, (c : Int)⟩), (39, ⟨ints, P⟩), (40, ⟨i64, ((P.length : Nat) : Int)⟩), (41, ⟨i64, (i : Int)⟩)], [(0, some (.box po (l, ()))), (1, some (.box po (m, ())))], 2⟩) (fun c => 1 ≤ c ∧ c ≤ 4 ∧ okA l m pe c) (fun c => 4 - c) 1 ⟨by omega, by omega, fun a h1 h2 => by omega⟩ ⟨⟨rfl, rfl, vI64 hpe, rfl, rfl, rfl, rfl, trivial⟩, ⟨rfl, rfl, trivial⟩, rfl, rfl⟩ ?_
    rintro c ⟨hc1, hc4, hca⟩
    (repeat (first | refine AWP.seq ?_ | refine AWP.skip ?_ | refine AWP.block ?_ | refine AWP.exit ?_)); refine AWP.region hX kQP_ok rfl ?_ ?_
    · trivial
    refine AWP.cond rfl (fun hb => ?_) (fun hb => ?_)
    · have hb : decide ((c : Int) ≤ 3) = true := hb
      have hb := of_decide_eq_true hb
      (repeat (first | refine AWP.seq ?_ | refine AWP.skip ?_ | refine AWP.block ?_ | refine AWP.exit ?_)); refine AWP.region hX kQP_ok rfl ?_ ?_
      · exact hok.1
      generalize hO : outs l (c : Int) pe = O
      (repeat (first | refine AWP.seq ?_ | refine AWP.skip ?_ | refine AWP.block ?_ | refine AWP.exit ?_));
      refine AWP.loop (ι := Nat) (fun j => ⟨[(2, ⟨.optr po, ⟨0, po, .here⟩⟩), (3, ⟨.optr po, ⟨1, po, .here⟩⟩), (9, ⟨i64, pe⟩), (10, ⟨i64, (c : Int)⟩), (39, ⟨ints, P⟩), (40, ⟨i64, ((P.length : Nat) : Int)⟩), (41, ⟨i64, (i : Int)⟩), (52, ⟨.slice oc, O⟩), (53, ⟨i64, ((O.length : Nat) : Int)⟩), (54, ⟨i64, (j : Int)⟩)], [(0, some (.box po (l, ()))), (1, some (.box po (m, ())))], 2⟩) (fun j => j ≤ O.length ∧ ∀ x ∈ O.take j, (outs m (c : Int) pe).any (overO x) = false) (fun j => O.length - j) 0 ⟨by omega, by simp⟩ ⟨⟨rfl, rfl, rfl, rfl, rfl, rfl, rfl, vOcs hO, vI64 (congrArg (fun z : List Oc => ((z.length : Nat) : Int)) hO), rfl, trivial⟩, ⟨rfl, rfl, trivial⟩, rfl, rfl⟩ ?_
      rintro j ⟨hj, hxs⟩
      refine AWP.len 52 rfl fun hOl => ?_
      have hOl : O.length ≤ maxLen := hOl
      unfold maxLen at hOl
      (repeat (first | refine AWP.seq ?_ | refine AWP.skip ?_ | refine AWP.block ?_ | refine AWP.exit ?_)); refine AWP.region hX kQP_ok rfl ?_ ?_
      · trivial
      refine AWP.seq ?_
      refine AWP.cond rfl (fun hb => ?_) (fun hb => ?_)
      · have hb : decide ((j : Int) < (O.length : Nat)) = true := hb
        have hb := of_decide_eq_true hb
        have hlj : j < O.length := by omega
        have m0 : (0 : Int) ≤ (j : Int) := by omega
        (repeat (first | refine AWP.seq ?_ | refine AWP.skip ?_ | refine AWP.block ?_ | refine AWP.exit ?_)); refine AWP.region hX kQP_ok rfl ?_ ?_
        · exact ⟨m0, hb⟩
        have hx : O.getD (j : Int).toNat zO = O[j] := getD_at hlj
        have hxm : O[j] ∈ O := List.getElem_mem hlj
        have htj : ∀ q, q ∈ O.take (j + 1) ↔ q ∈ O.take j ∨ O[j] = q := fun q => mem_takeO hlj
        generalize O[j] = x at hx hxm htj
        refine AWP.fit (σ' := ⟨[(2, ⟨.optr po, ⟨0, po, .here⟩⟩), (3, ⟨.optr po, ⟨1, po, .here⟩⟩), (9, ⟨i64, pe⟩), (10, ⟨i64, (c : Int)⟩), (12, ⟨.optr oc, ⟨2, oc, .here⟩⟩), (39, ⟨ints, P⟩), (40, ⟨i64, ((P.length : Nat) : Int)⟩), (41, ⟨i64, (i : Int)⟩), (52, ⟨.slice oc, O⟩), (53, ⟨i64, ((O.length : Nat) : Int)⟩), (54, ⟨i64, (j : Int)⟩)], [(0, some (.box po (l, ()))), (1, some (.box po (m, ()))), (2, some (.box oc x))], 3⟩) ⟨⟨rfl, rfl, rfl, rfl, rfl, rfl, rfl, rfl, rfl, rfl, rfl, trivial⟩, ⟨rfl, rfl, boxOc hx, trivial⟩, rfl, rfl⟩ ?_
        refine AWP.frzB hX 12 ?_
        (repeat (first | refine AWP.seq ?_ | refine AWP.skip ?_ | refine AWP.block ?_ | refine AWP.exit ?_)); refine AWP.region hX kQP_ok rfl ?_ ?_
        · exact hok.2
        refine AWP.cond rfl (fun hb => ?_) (fun hb => ?_)
        · have hb : (outs m (c : Int) pe).any (overO x) = true := hb
          (repeat (first | refine AWP.seq ?_ | refine AWP.skip ?_ | refine AWP.label ?_ | refine AWP.exit ?_ | refine AWP.block ?_ | refine AWP.region hX kQP_ok rfl trivial ?_ | refine AWP.region hX kQP_ok rfl id ?_ | refine AWP.region hX kQP_ok rfl ⟨id, id⟩ ?_))
          refine AWP.ret ⟨.inr rfl, done1 rfl trivial rfl rfl ?_⟩
          show false = pstr l m
          refine (Bool.eq_false_iff.2 fun h => ?_).symm
          have := hiff.1 h pe hpm c hc1 (by omega) x (hO ▸ hxm)
          rw [hb] at this
          cases this
        · have hb : (outs m (c : Int) pe).any (overO x) = false := hb
          (repeat (first | refine AWP.seq ?_ | refine AWP.skip ?_ | refine AWP.block ?_ | refine AWP.exit ?_)); refine AWP.region hX kQP_ok rfl ?_ ?_
          · exact inR_succ (by omega)
          exact ⟨j + 1, ⟨by omega, fun q hq => by
            rw [htj] at hq
            rcases hq with hq | hq
            · exact hxs q hq
            · exact hq ▸ hb⟩, by omega, ⟨rfl, rfl, rfl, rfl, rfl, rfl, rfl, rfl, rfl, vSucc _, trivial⟩, ⟨rfl, rfl, trivial⟩, rfl, rfl⟩
      · have hb : decide ((j : Int) < (O.length : Nat)) = false := hb
        have hb := of_decide_eq_false hb
        have : j = O.length := by omega
        subst this
        rw [List.take_length] at hxs
        (repeat (first | refine AWP.seq ?_ | refine AWP.skip ?_ | refine AWP.block ?_ | refine AWP.exit ?_)); refine AWP.region hX kQP_ok rfl ?_ ?_
        · exact inR_succ (by omega)
        exact ⟨c + 1, ⟨by omega, by omega, fun a h1 h2 => by
          by_cases e : a = c
          · subst e
            intro x hx
            exact hxs x (hO ▸ hx)
          · exact hca a h1 (by omega)⟩, by omega, ⟨rfl, rfl, rfl, vSucc _, rfl, rfl, rfl, trivial⟩, ⟨rfl, rfl, trivial⟩, rfl, rfl⟩
    · have hb : decide ((c : Int) ≤ 3) = false := hb
      have hb := of_decide_eq_false hb
      obtain rfl : c = 4 := by omega
      (repeat (first | refine AWP.seq ?_ | refine AWP.skip ?_ | refine AWP.block ?_ | refine AWP.exit ?_)); refine AWP.region hX kQP_ok rfl ?_ ?_
      · exact inR_succ (by omega)
      exact ⟨i + 1, ⟨by omega, fun q hq => by
        rw [hts] at hq
        rcases hq with hq | hq
        · exact hall q hq
        · exact hq ▸ hca⟩, by omega, ⟨rfl, rfl, rfl, rfl, vSucc _, trivial⟩, ⟨rfl, rfl, trivial⟩, rfl, rfl⟩
  · have hb : decide ((i : Int) < (P.length : Nat)) = false := hb
    have hb := of_decide_eq_false hb
    have : i = P.length := by omega
    subst this
    rw [List.take_length] at hall
    (repeat (first | refine AWP.seq ?_ | refine AWP.skip ?_ | refine AWP.label ?_ | refine AWP.exit ?_ | refine AWP.block ?_ | refine AWP.region hX kQP_ok rfl trivial ?_ | refine AWP.region hX kQP_ok rfl id ?_ | refine AWP.region hX kQP_ok rfl ⟨id, id⟩ ?_))
    refine AWP.ret ⟨.inr rfl, done1 rfl trivial rfl rfl ?_⟩
    show true = pstr l m
    refine (hiff.2 fun p hp a h1 h2 => ?_).symm
    exact hall p hp a h1 h2
end Go.Proofs.YtbbeldmcdjjnbaaGreatDoor
