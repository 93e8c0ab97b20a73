/-
  Package policy: value, outcomes, together.
-/
import Derived.Test.YtbbeldmcdjjnbaaGreatDoorPPrgA
import Derived.Test.YtbbeldmcdjjnbaaGreatDoorAbsMem
namespace Go.Proofs.YtbbeldmcdjjnbaaGreatDoor
open Go Go.RowKit
set_option linter.unusedSimpArgs false
set_option linter.unusedVariables false
set_option maxRecDepth 100000
def value (g : Gt) : Int := if gA g = 1 then gG g else if gA g = 3 then gR g + 1 else 1
def cPValue : Ctr := { args := [gr], pre := fun x => [0 ≤ gR x.1, gR x.1 ≤ 1000], res := i64, own := none, out := fun x => value x.1 }
theorem value_ok : CtrOk Tryz.prog pG 36 cPValue := by
  refine ctr_of_awp (K := pK) pK_ok Tryz.func36 rfl rfl Tryz.call36 rfl (by decide) (by intro h; cases h) ?_
  rintro w0 X hX ⟨⟨(a : Int), (p : Int), (t : Int), (g : Int), (r : Int), _⟩, _⟩ hp
  obtain ⟨hp0, hp⟩ : 0 ≤ r ∧ r ≤ 1000 := hp
  change AWP _ _ _ _ _ ⟨[(0, ⟨gr, (a, p, t, g, r, ())⟩)], [], 0⟩ _
  (repeat (first | refine AWP.seq ?_ | refine AWP.skip ?_ | refine AWP.label ?_ | refine AWP.exit ?_ | refine AWP.block ?_ | refine AWP.region hX pK_ok rfl trivial ?_ | refine AWP.region hX pK_ok rfl id ?_ | refine AWP.region hX pK_ok rfl ⟨id, id⟩ ?_))
  refine AWP.cond rfl (fun hb => ?_) (fun hb => ?_)
  · have h1 : decide (a = 1) = true := hb
    have h1 := of_decide_eq_true h1
    (repeat (first | refine AWP.seq ?_ | refine AWP.skip ?_ | refine AWP.label ?_ | refine AWP.exit ?_ | refine AWP.block ?_ | refine AWP.region hX pK_ok rfl trivial ?_ | refine AWP.region hX pK_ok rfl id ?_ | refine AWP.region hX pK_ok rfl ⟨id, id⟩ ?_))
    refine AWP.ret ⟨.inr rfl, done1 rfl trivial rfl rfl ?_⟩
    show g = value (a, p, t, g, r, ())
    unfold value
    rw [if_pos (show gA (a, p, t, g, r, ()) = 1 from h1)]
    rfl
  have h1 : decide (a = 1) = false := hb
  have h1 := of_decide_eq_false h1
  (repeat (first | refine AWP.seq ?_ | refine AWP.skip ?_ | refine AWP.label ?_ | refine AWP.exit ?_ | refine AWP.block ?_ | refine AWP.region hX pK_ok rfl trivial ?_ | refine AWP.region hX pK_ok rfl id ?_ | refine AWP.region hX pK_ok rfl ⟨id, id⟩ ?_))
  refine AWP.cond rfl (fun hb => ?_) (fun hb => ?_)
  · have h2 : decide (a = 3) = true := hb
    have h2 := of_decide_eq_true h2
    (repeat (first | refine AWP.seq ?_ | refine AWP.skip ?_ | refine AWP.block ?_ | refine AWP.exit ?_)); refine AWP.region hX pK_ok rfl ?_ ?_
    · exact inR_small (by show _ ≤ r + 1; omega) (by show r + 1 ≤ _; omega)
    refine AWP.ret ⟨.inr rfl, done1 rfl trivial rfl rfl ?_⟩
    show r + 1 = value (a, p, t, g, r, ())
    unfold value
    rw [if_neg (show ¬ gA (a, p, t, g, r, ()) = 1 from h1), if_pos (show gA (a, p, t, g, r, ()) = 3 from h2)]
    rfl
  · have h2 : decide (a = 3) = false := hb
    have h2 := of_decide_eq_false h2
    (repeat (first | refine AWP.seq ?_ | refine AWP.skip ?_ | refine AWP.label ?_ | refine AWP.exit ?_ | refine AWP.block ?_ | refine AWP.region hX pK_ok rfl trivial ?_ | refine AWP.region hX pK_ok rfl id ?_ | refine AWP.region hX pK_ok rfl ⟨id, id⟩ ?_))
    refine AWP.ret ⟨.inr rfl, done1 rfl trivial rfl rfl ?_⟩
    show 1 = value (a, p, t, g, r, ())
    unfold value
    rw [if_neg (show ¬ gA (a, p, t, g, r, ()) = 1 from h1), if_neg (show ¬ gA (a, p, t, g, r, ()) = 3 from h2)]
/-- a copy, as memory of the caller's own -/
def cClone : Ctr := { args := [ints], pre := fun x => [List.length x.1 ≤ 1000], res := ints, own := some 3, out := fun x => x.1 }
theorem clone_ok : CtrOk Tryz.prog pG 38 cClone := by
  refine ctr_of_awp (K := pK) pK_ok Tryz.func38 rfl rfl Tryz.call38 rfl (by decide) (by intro h; cases h) ?_
  rintro w0 X hX ⟨(l : List Int), _⟩ hp
  have hp : l.length ≤ 1000 := hp
  change AWP _ _ _ _ _ ⟨[(0, ⟨ints, l⟩)], [], 0⟩ _
  (repeat (first | refine AWP.seq ?_ | refine AWP.skip ?_ | refine AWP.label ?_ | refine AWP.exit ?_ | refine AWP.block ?_ | refine AWP.region hX pK_ok rfl trivial ?_ | refine AWP.region hX pK_ok rfl id ?_ | refine AWP.region hX pK_ok rfl ⟨id, id⟩ ?_))
  refine AWP.nilEq (e := 3) hX pK_ok [_] _ rfl rfl rfl rfl rfl (by kernel_rfl) rfl trivial rfl (fun b hb => ?_)
  refine AWP.cond rfl (fun h => ?_) (fun h => ?_)
  · have h : b = true := h
    obtain rfl := hb h
    (repeat (first | refine AWP.seq ?_ | refine AWP.skip ?_ | refine AWP.label ?_ | refine AWP.exit ?_ | refine AWP.block ?_ | refine AWP.region hX pK_ok rfl trivial ?_ | refine AWP.region hX pK_ok rfl id ?_ | refine AWP.region hX pK_ok rfl ⟨id, id⟩ ?_))
    refine AWP.nilBuf hX 2 3 i64 rfl rfl rfl ?_
    exact AWP.ret ⟨.inr rfl, doneO rfl rfl rfl⟩
  · (repeat (first | refine AWP.seq ?_ | refine AWP.skip ?_ | refine AWP.block ?_ | refine AWP.exit ?_)); refine AWP.region hX pK_ok rfl ?_ ?_
    · show 0 + l.length ≤ 1000000000
      omega
    exact AWP.ret ⟨.inr rfl, doneO rfl rfl rfl⟩
abbrev Oc := Int × Int × List Int × Unit
/-- the outcomes of the grants that follow, behind those that are known, where the teams 'e' came earlier -/
def outsF (a p : Int) : List Gt → List Oc → List Int → List Oc
  | [], out, e => out ++ [(0, -1, e, ())]
  | g :: r, out, e => if gA g ≠ a ∨ (0 ≤ gP g ∧ gP g ≠ p) then outsF a p r out e else if gT g < 0 then out ++ [(value g, -1, e, ())] else if gT g ∈ e then outsF a p r out e else outsF a p r (out ++ [(value g, gT g, e, ())]) (e ++ [gT g])
def outs (l : List Gt) (a p : Int) : List Oc := outsF a p l [] []
def kQK : Kn := { pK with C := [(36, cPValue), (37, cHas), (38, cClone)] }
theorem kQK_ok : KnOk Tryz.prog pG kQK := pK_ok.with (.cons value_ok (.cons containsI_ok (.cons clone_ok .nil)))
def cOuts : Ctr := { args := [po, i64, i64], pre := fun x => [OkP x.1.1], res := .slice oc, own := none, out := fun x => outs x.1.1 x.2.1 x.2.2.1 }
def sOuts (l : List Gt) (a p : Int) (k : Nat) (out : List Oc) (e : List Int) (g : Gt) : AS := ⟨[(1, ⟨i64, a⟩), (2, ⟨i64, p⟩), (7, ⟨.obuf oc, (1 : Nat)⟩), (8, ⟨ints, e⟩), (10, ⟨.optr gr, ⟨3, gr, .here⟩⟩), (12, ⟨.slice gr, l⟩), (13, ⟨i64, ((l.length : Nat) : Int)⟩), (14, ⟨i64, (k : Int)⟩)], [(1, some (.buf 72 oc out)), (3, some (.box gr g))], 4⟩
theorem oTest (ga a gp p : Int) : (bif !decide (ga = a) then true else (bif decide (gp ≥ 0) then !decide (gp = p) else false)) = true ↔ ga ≠ a ∨ (0 ≤ gp ∧ gp ≠ p) := by
  by_cases h1 : ga = a <;> by_cases h2 : gp ≥ 0 <;> by_cases h3 : gp = p <;> simp [h1, h2, h3] <;> omega
set_option maxHeartbeats 4000000 in
theorem outcomes_ok : CtrOk Tryz.prog pG 17 cOuts := by
  refine ctr_of_awp (K := kQK) kQK_ok Tryz.func17 rfl rfl Tryz.call17 rfl (by decide) (by intro h; cases h) ?_
  rintro w0 X hX ⟨⟨(l : List Gt), _⟩, (a : Int), (p : Int), _⟩ hp
  have hp : OkP l := hp
  change AWP _ _ _ _ _ ⟨[(0, ⟨po, (l, ())⟩), (1, ⟨i64, a⟩), (2, ⟨i64, p⟩)], [], 0⟩ _
  (repeat (first | refine AWP.seq ?_ | refine AWP.skip ?_ | refine AWP.label ?_ | refine AWP.exit ?_ | refine AWP.block ?_ | refine AWP.region hX kQK_ok rfl trivial ?_ | refine AWP.region hX kQK_ok rfl id ?_ | refine AWP.region hX kQK_ok rfl ⟨id, id⟩ ?_))
  refine AWP.nilBuf hX 7 72 oc rfl rfl rfl ?_
  refine AWP.nilBuf hX 8 3 i64 rfl rfl rfl ?_
  refine AWP.frz hX 8 ?_
  refine AWP.loop (ι := Nat × List Oc × List Int) (fun s => ⟨[(1, ⟨i64, a⟩), (2, ⟨i64, p⟩), (7, ⟨.obuf oc, (1 : Nat)⟩), (8, ⟨ints, s.2.2⟩), (12, ⟨.slice gr, l⟩), (13, ⟨i64, ((l.length : Nat) : Int)⟩), (14, ⟨i64, (s.1 : Int)⟩)], [(1, some (.buf 72 oc s.2.1))], 3⟩)
    (fun s => s.1 ≤ l.length ∧ s.2.1.length ≤ s.1 ∧ s.2.2.length ≤ s.1 ∧ outsF a p (l.drop s.1) s.2.1 s.2.2 = outs l a p) (fun s => l.length - s.1) (0, [], []) ⟨by omega, by simp, by simp, rfl⟩ ⟨⟨rfl, rfl, rfl, rfl, rfl, rfl, rfl, trivial⟩, ⟨rfl, trivial⟩, rfl, rfl⟩ ?_
  rintro ⟨k, out, e⟩ ⟨hk, ho, he, hout⟩
  have hk : k ≤ l.length := hk
  have ho : out.length ≤ k := ho
  have he : e.length ≤ k := he
  have hout : outsF a p (l.drop k) out e = outs l a p := hout
  have hl := hp.1
  (repeat (first | refine AWP.seq ?_ | refine AWP.skip ?_ | refine AWP.block ?_ | refine AWP.exit ?_)); refine AWP.region hX kQK_ok rfl ?_ ?_
  · trivial
  refine AWP.seq ?_
  refine AWP.cond rfl (fun hb => ?_) (fun hb => ?_)
  · have hb : decide ((k : Int) < (l.length : Nat)) = true := hb
    have hb := of_decide_eq_true hb
    have hlt : k < l.length := by omega
    have n0 : (0 : Int) ≤ (k : Int) := by omega
    (repeat (first | refine AWP.seq ?_ | refine AWP.skip ?_ | refine AWP.block ?_ | refine AWP.exit ?_)); refine AWP.region hX kQK_ok rfl ?_ ?_
    · exact ⟨n0, hb⟩
    have hok := hp.2 _ (List.getElem_mem hlt)
    have hd : l.drop k = l[k] :: l.drop (k + 1) := List.drop_eq_getElem_cons hlt
    rw [hd] at hout
    have hG : l.getD (k : Int).toNat zG = l[k] := getD_at hlt
    generalize l[k] = g at hok hout hG
    refine AWP.fit (σ' := sOuts l a p k out e g) ⟨⟨rfl, rfl, rfl, rfl, rfl, rfl, rfl, rfl, trivial⟩, ⟨rfl, boxGr hG, trivial⟩, rfl, rfl⟩ ?_
    obtain ⟨(ga : Int), (gp : Int), (gt : Int), (gg : Int), (grr : Int), _⟩ := g
    have hr := hok.2.2.2.1
    have hr0 : 0 ≤ grr := hr.1
    have hr1 : grr ≤ 1000 := by have : grr ≤ 100 := hr.2; omega
    unfold outsF at hout
    unfold sOuts
    (repeat (first | refine AWP.seq ?_ | refine AWP.skip ?_ | refine AWP.block ?_ | refine AWP.exit ?_)); refine AWP.region hX kQK_ok rfl ?_ ?_
    · clear hout hp hok hd hG
      repeat' (first | exact trivial | assumption | (refine ⟨?_, ?_⟩) | (intro _) | exact Nat.le_of_ble_eq_true rfl | exact Int.natCast_nonneg _ | (simp_all [allP]; done))
    refine AWP.cond rfl (fun hb => ?_) (fun hb => ?_)
    · have hc : (bif !decide (ga = a) then true else (bif decide (gp ≥ 0) then !decide (gp = p) else false)) = true := hb
      have hc := (oTest ..).1 hc
      rw [if_pos (show gA (ga, gp, gt, gg, grr, ()) ≠ a ∨ (0 ≤ gP (ga, gp, gt, gg, grr, ()) ∧ gP (ga, gp, gt, gg, grr, ()) ≠ p) from hc)] at hout
      (repeat (first | refine AWP.seq ?_ | refine AWP.skip ?_ | refine AWP.block ?_ | refine AWP.exit ?_)); refine AWP.region hX kQK_ok rfl ?_ ?_
      · exact inR_succ (by omega)
      exact ⟨(k + 1, out, e), ⟨by omega, by show out.length ≤ k + 1; omega, by show e.length ≤ k + 1; omega, hout⟩, by show l.length - (k + 1) < l.length - k; omega, ⟨rfl, rfl, rfl, rfl, rfl, rfl, vSucc _, trivial⟩, ⟨rfl, trivial⟩, rfl, rfl⟩
    have hc : (bif !decide (ga = a) then true else (bif decide (gp ≥ 0) then !decide (gp = p) else false)) = false := hb
    have hc : ¬ (ga ≠ a ∨ (0 ≤ gp ∧ gp ≠ p)) := fun h => by
      rw [(oTest ..).2 h] at hc
      cases hc
    rw [if_neg (show ¬ (gA (ga, gp, gt, gg, grr, ()) ≠ a ∨ (0 ≤ gP (ga, gp, gt, gg, grr, ()) ∧ gP (ga, gp, gt, gg, grr, ()) ≠ p)) from hc)] at hout
    (repeat (first | refine AWP.seq ?_ | refine AWP.skip ?_ | refine AWP.label ?_ | refine AWP.exit ?_ | refine AWP.block ?_ | refine AWP.region hX kQK_ok rfl trivial ?_ | refine AWP.region hX kQK_ok rfl id ?_ | refine AWP.region hX kQK_ok rfl ⟨id, id⟩ ?_))
    refine AWP.cond rfl (fun hb => ?_) (fun hb => ?_)
    · have h1 : decide (gt < 0) = true := hb
      have h1 := of_decide_eq_true h1
      rw [if_pos (show gT (ga, gp, gt, gg, grr, ()) < 0 from h1)] at hout
      (repeat (first | refine AWP.seq ?_ | refine AWP.skip ?_ | refine AWP.block ?_ | refine AWP.exit ?_)); refine AWP.region hX kQK_ok rfl ?_ ?_
      · exact ⟨hr0, hr1, by show out.length + 1 ≤ 1000000000; omega⟩
      refine AWP.frz hX 6 ?_
      exact AWP.ret ⟨.inr rfl, done1 rfl trivial rfl rfl hout⟩
    have h1 : decide (gt < 0) = false := hb
    have h1 := of_decide_eq_false h1
    rw [if_neg (show ¬ gT (ga, gp, gt, gg, grr, ()) < 0 from h1)] at hout
    (repeat (first | refine AWP.seq ?_ | refine AWP.skip ?_ | refine AWP.label ?_ | refine AWP.exit ?_ | refine AWP.block ?_ | refine AWP.region hX kQK_ok rfl trivial ?_ | refine AWP.region hX kQK_ok rfl id ?_ | refine AWP.region hX kQK_ok rfl ⟨id, id⟩ ?_))
    refine AWP.cond rfl (fun hb => ?_) (fun hb => ?_)
    · have h2 : (!decide (gt ∈ e)) = true := hb
      have h2 : gt ∉ e := by simpa using h2
      rw [if_neg (show ¬ gT (ga, gp, gt, gg, grr, ()) ∈ e from h2)] at hout
      have cs : allP [0 ≤ grr, grr ≤ 1000, out.length + 1 ≤ 1000000000] := ⟨hr0, hr1, (by omega : out.length + 1 ≤ 1000000000)⟩
      (repeat (first | refine AWP.seq ?_ | refine AWP.skip ?_ | refine AWP.block ?_ | refine AWP.exit ?_)); refine AWP.orders (σ' := sOuts l a p k (out ++ [(value (ga, gp, gt, gg, grr, ()), gt, e, ())]) e (ga, gp, gt, gg, grr, ())) dM hX kQK_ok 10 rfl (by kernel_rfl) [[0, 1, 2, 3, 4, 5, 6, 7, 8, 9], [0, 1, 2, 3, 5, 4, 6, 7, 8, 9], [0, 1, 2, 5, 3, 4, 6, 7, 8, 9], [0, 1, 3, 2, 4, 5, 6, 7, 8, 9], [0, 1, 3, 2, 5, 4, 6, 7, 8, 9], [0, 1, 3, 4, 2, 5, 6, 7, 8, 9], [0, 1, 3, 4, 5, 2, 6, 7, 8, 9], [0, 1, 3, 5, 2, 4, 6, 7, 8, 9], [0, 1, 3, 5, 4, 2, 6, 7, 8, 9], [0, 1, 5, 2, 3, 4, 6, 7, 8, 9], [0, 1, 5, 3, 2, 4, 6, 7, 8, 9], [0, 1, 5, 3, 4, 2, 6, 7, 8, 9], [0, 3, 1, 2, 4, 5, 6, 7, 8, 9], [0, 3, 1, 2, 5, 4, 6, 7, 8, 9], [0, 3, 1, 4, 2, 5, 6, 7, 8, 9], [0, 3, 1, 4, 5, 2, 6, 7, 8, 9], [0, 3, 1, 5, 2, 4, 6, 7, 8, 9], [0, 3, 1, 5, 4, 2, 6, 7, 8, 9], [0, 3, 4, 1, 2, 5, 6, 7, 8, 9], [0, 3, 4, 1, 5, 2, 6, 7, 8, 9], [0, 3, 4, 5, 1, 2, 6, 7, 8, 9], [0, 3, 5, 1, 2, 4, 6, 7, 8, 9], [0, 3, 5, 1, 4, 2, 6, 7, 8, 9], [0, 3, 5, 4, 1, 2, 6, 7, 8, 9], [0, 5, 1, 2, 3, 4, 6, 7, 8, 9], [0, 5, 1, 3, 2, 4, 6, 7, 8, 9], [0, 5, 1, 3, 4, 2, 6, 7, 8, 9], [0, 5, 3, 1, 2, 4, 6, 7, 8, 9], [0, 5, 3, 1, 4, 2, 6, 7, 8, 9], [0, 5, 3, 4, 1, 2, 6, 7, 8, 9], [1, 0, 2, 3, 4, 5, 6, 7, 8, 9], [1, 0, 2, 3, 5, 4, 6, 7, 8, 9], [1, 0, 2, 5, 3, 4, 6, 7, 8, 9], [1, 0, 3, 2, 4, 5, 6, 7, 8, 9], [1, 0, 3, 2, 5, 4, 6, 7, 8, 9], [1, 0, 3, 4, 2, 5, 6, 7, 8, 9], [1, 0, 3, 4, 5, 2, 6, 7, 8, 9], [1, 0, 3, 5, 2, 4, 6, 7, 8, 9], [1, 0, 3, 5, 4, 2, 6, 7, 8, 9], [1, 0, 5, 2, 3, 4, 6, 7, 8, 9], [1, 0, 5, 3, 2, 4, 6, 7, 8, 9], [1, 0, 5, 3, 4, 2, 6, 7, 8, 9], [1, 2, 0, 3, 4, 5, 6, 7, 8, 9], [1, 2, 0, 3, 5, 4, 6, 7, 8, 9], [1, 2, 0, 5, 3, 4, 6, 7, 8, 9], [1, 2, 3, 0, 4, 5, 6, 7, 8, 9], [1, 2, 3, 0, 5, 4, 6, 7, 8, 9], [1, 2, 3, 4, 0, 5, 6, 7, 8, 9], [1, 2, 3, 4, 5, 0, 6, 7, 8, 9], [1, 2, 3, 4, 5, 6, 0, 7, 8, 9], [1, 2, 3, 4, 5, 6, 7, 0, 8, 9], [1, 2, 3, 5, 0, 4, 6, 7, 8, 9], [1, 2, 3, 5, 4, 0, 6, 7, 8, 9], [1, 2, 3, 5, 4, 6, 0, 7, 8, 9], [1, 2, 3, 5, 4, 6, 7, 0, 8, 9], [1, 2, 5, 0, 3, 4, 6, 7, 8, 9], [1, 2, 5, 3, 0, 4, 6, 7, 8, 9], [1, 2, 5, 3, 4, 0, 6, 7, 8, 9], [1, 2, 5, 3, 4, 6, 0, 7, 8, 9], [1, 2, 5, 3, 4, 6, 7, 0, 8, 9], [1, 3, 0, 2, 4, 5, 6, 7, 8, 9], [1, 3, 0, 2, 5, 4, 6, 7, 8, 9], [1, 3, 0, 4, 2, 5, 6, 7, 8, 9], [1, 3, 0, 4, 5, 2, 6, 7, 8, 9], [1, 3, 0, 5, 2, 4, 6, 7, 8, 9], [1, 3, 0, 5, 4, 2, 6, 7, 8, 9], [1, 3, 2, 0, 4, 5, 6, 7, 8, 9], [1, 3, 2, 0, 5, 4, 6, 7, 8, 9], [1, 3, 2, 4, 0, 5, 6, 7, 8, 9], [1, 3, 2, 4, 5, 0, 6, 7, 8, 9], [1, 3, 2, 4, 5, 6, 0, 7, 8, 9], [1, 3, 2, 4, 5, 6, 7, 0, 8, 9], [1, 3, 2, 5, 0, 4, 6, 7, 8, 9], [1, 3, 2, 5, 4, 0, 6, 7, 8, 9], [1, 3, 2, 5, 4, 6, 0, 7, 8, 9], [1, 3, 2, 5, 4, 6, 7, 0, 8, 9], [1, 3, 4, 0, 2, 5, 6, 7, 8, 9], [1, 3, 4, 0, 5, 2, 6, 7, 8, 9], [1, 3, 4, 2, 0, 5, 6, 7, 8, 9], [1, 3, 4, 2, 5, 0, 6, 7, 8, 9], [1, 3, 4, 2, 5, 6, 0, 7, 8, 9], [1, 3, 4, 2, 5, 6, 7, 0, 8, 9], [1, 3, 4, 5, 0, 2, 6, 7, 8, 9], [1, 3, 4, 5, 2, 0, 6, 7, 8, 9], [1, 3, 4, 5, 2, 6, 0, 7, 8, 9], [1, 3, 4, 5, 2, 6, 7, 0, 8, 9], [1, 3, 5, 0, 2, 4, 6, 7, 8, 9], [1, 3, 5, 0, 4, 2, 6, 7, 8, 9], [1, 3, 5, 2, 0, 4, 6, 7, 8, 9], [1, 3, 5, 2, 4, 0, 6, 7, 8, 9], [1, 3, 5, 2, 4, 6, 0, 7, 8, 9], [1, 3, 5, 2, 4, 6, 7, 0, 8, 9], [1, 3, 5, 4, 0, 2, 6, 7, 8, 9], [1, 3, 5, 4, 2, 0, 6, 7, 8, 9], [1, 3, 5, 4, 2, 6, 0, 7, 8, 9], [1, 3, 5, 4, 2, 6, 7, 0, 8, 9], [1, 5, 0, 2, 3, 4, 6, 7, 8, 9], [1, 5, 0, 3, 2, 4, 6, 7, 8, 9], [1, 5, 0, 3, 4, 2, 6, 7, 8, 9], [1, 5, 2, 0, 3, 4, 6, 7, 8, 9], [1, 5, 2, 3, 0, 4, 6, 7, 8, 9], [1, 5, 2, 3, 4, 0, 6, 7, 8, 9], [1, 5, 2, 3, 4, 6, 0, 7, 8, 9], [1, 5, 2, 3, 4, 6, 7, 0, 8, 9], [1, 5, 3, 0, 2, 4, 6, 7, 8, 9], [1, 5, 3, 0, 4, 2, 6, 7, 8, 9], [1, 5, 3, 2, 0, 4, 6, 7, 8, 9], [1, 5, 3, 2, 4, 0, 6, 7, 8, 9], [1, 5, 3, 2, 4, 6, 0, 7, 8, 9], [1, 5, 3, 2, 4, 6, 7, 0, 8, 9], [1, 5, 3, 4, 0, 2, 6, 7, 8, 9], [1, 5, 3, 4, 2, 0, 6, 7, 8, 9], [1, 5, 3, 4, 2, 6, 0, 7, 8, 9], [1, 5, 3, 4, 2, 6, 7, 0, 8, 9], [3, 0, 1, 2, 4, 5, 6, 7, 8, 9], [3, 0, 1, 2, 5, 4, 6, 7, 8, 9], [3, 0, 1, 4, 2, 5, 6, 7, 8, 9], [3, 0, 1, 4, 5, 2, 6, 7, 8, 9], [3, 0, 1, 5, 2, 4, 6, 7, 8, 9], [3, 0, 1, 5, 4, 2, 6, 7, 8, 9], [3, 0, 4, 1, 2, 5, 6, 7, 8, 9], [3, 0, 4, 1, 5, 2, 6, 7, 8, 9], [3, 0, 4, 5, 1, 2, 6, 7, 8, 9], [3, 0, 5, 1, 2, 4, 6, 7, 8, 9], [3, 0, 5, 1, 4, 2, 6, 7, 8, 9], [3, 0, 5, 4, 1, 2, 6, 7, 8, 9], [3, 1, 0, 2, 4, 5, 6, 7, 8, 9], [3, 1, 0, 2, 5, 4, 6, 7, 8, 9], [3, 1, 0, 4, 2, 5, 6, 7, 8, 9], [3, 1, 0, 4, 5, 2, 6, 7, 8, 9], [3, 1, 0, 5, 2, 4, 6, 7, 8, 9], [3, 1, 0, 5, 4, 2, 6, 7, 8, 9], [3, 1, 2, 0, 4, 5, 6, 7, 8, 9], [3, 1, 2, 0, 5, 4, 6, 7, 8, 9], [3, 1, 2, 4, 0, 5, 6, 7, 8, 9], [3, 1, 2, 4, 5, 0, 6, 7, 8, 9], [3, 1, 2, 4, 5, 6, 0, 7, 8, 9], [3, 1, 2, 4, 5, 6, 7, 0, 8, 9], [3, 1, 2, 5, 0, 4, 6, 7, 8, 9], [3, 1, 2, 5, 4, 0, 6, 7, 8, 9], [3, 1, 2, 5, 4, 6, 0, 7, 8, 9], [3, 1, 2, 5, 4, 6, 7, 0, 8, 9], [3, 1, 4, 0, 2, 5, 6, 7, 8, 9], [3, 1, 4, 0, 5, 2, 6, 7, 8, 9], [3, 1, 4, 2, 0, 5, 6, 7, 8, 9], [3, 1, 4, 2, 5, 0, 6, 7, 8, 9], [3, 1, 4, 2, 5, 6, 0, 7, 8, 9], [3, 1, 4, 2, 5, 6, 7, 0, 8, 9], [3, 1, 4, 5, 0, 2, 6, 7, 8, 9], [3, 1, 4, 5, 2, 0, 6, 7, 8, 9], [3, 1, 4, 5, 2, 6, 0, 7, 8, 9], [3, 1, 4, 5, 2, 6, 7, 0, 8, 9], [3, 1, 5, 0, 2, 4, 6, 7, 8, 9], [3, 1, 5, 0, 4, 2, 6, 7, 8, 9], [3, 1, 5, 2, 0, 4, 6, 7, 8, 9], [3, 1, 5, 2, 4, 0, 6, 7, 8, 9], [3, 1, 5, 2, 4, 6, 0, 7, 8, 9], [3, 1, 5, 2, 4, 6, 7, 0, 8, 9], [3, 1, 5, 4, 0, 2, 6, 7, 8, 9], [3, 1, 5, 4, 2, 0, 6, 7, 8, 9], [3, 1, 5, 4, 2, 6, 0, 7, 8, 9], [3, 1, 5, 4, 2, 6, 7, 0, 8, 9], [3, 4, 0, 1, 2, 5, 6, 7, 8, 9], [3, 4, 0, 1, 5, 2, 6, 7, 8, 9], [3, 4, 0, 5, 1, 2, 6, 7, 8, 9], [3, 4, 1, 0, 2, 5, 6, 7, 8, 9], [3, 4, 1, 0, 5, 2, 6, 7, 8, 9], [3, 4, 1, 2, 0, 5, 6, 7, 8, 9], [3, 4, 1, 2, 5, 0, 6, 7, 8, 9], [3, 4, 1, 2, 5, 6, 0, 7, 8, 9], [3, 4, 1, 2, 5, 6, 7, 0, 8, 9], [3, 4, 1, 5, 0, 2, 6, 7, 8, 9], [3, 4, 1, 5, 2, 0, 6, 7, 8, 9], [3, 4, 1, 5, 2, 6, 0, 7, 8, 9], [3, 4, 1, 5, 2, 6, 7, 0, 8, 9], [3, 4, 5, 0, 1, 2, 6, 7, 8, 9], [3, 4, 5, 1, 0, 2, 6, 7, 8, 9], [3, 4, 5, 1, 2, 0, 6, 7, 8, 9], [3, 4, 5, 1, 2, 6, 0, 7, 8, 9], [3, 4, 5, 1, 2, 6, 7, 0, 8, 9], [3, 5, 0, 1, 2, 4, 6, 7, 8, 9], [3, 5, 0, 1, 4, 2, 6, 7, 8, 9], [3, 5, 0, 4, 1, 2, 6, 7, 8, 9], [3, 5, 1, 0, 2, 4, 6, 7, 8, 9], [3, 5, 1, 0, 4, 2, 6, 7, 8, 9], [3, 5, 1, 2, 0, 4, 6, 7, 8, 9], [3, 5, 1, 2, 4, 0, 6, 7, 8, 9], [3, 5, 1, 2, 4, 6, 0, 7, 8, 9], [3, 5, 1, 2, 4, 6, 7, 0, 8, 9], [3, 5, 1, 4, 0, 2, 6, 7, 8, 9], [3, 5, 1, 4, 2, 0, 6, 7, 8, 9], [3, 5, 1, 4, 2, 6, 0, 7, 8, 9], [3, 5, 1, 4, 2, 6, 7, 0, 8, 9], [3, 5, 4, 0, 1, 2, 6, 7, 8, 9], [3, 5, 4, 1, 0, 2, 6, 7, 8, 9], [3, 5, 4, 1, 2, 0, 6, 7, 8, 9], [3, 5, 4, 1, 2, 6, 0, 7, 8, 9], [3, 5, 4, 1, 2, 6, 7, 0, 8, 9], [5, 0, 1, 2, 3, 4, 6, 7, 8, 9], [5, 0, 1, 3, 2, 4, 6, 7, 8, 9], [5, 0, 1, 3, 4, 2, 6, 7, 8, 9], [5, 0, 3, 1, 2, 4, 6, 7, 8, 9], [5, 0, 3, 1, 4, 2, 6, 7, 8, 9], [5, 0, 3, 4, 1, 2, 6, 7, 8, 9], [5, 1, 0, 2, 3, 4, 6, 7, 8, 9], [5, 1, 0, 3, 2, 4, 6, 7, 8, 9], [5, 1, 0, 3, 4, 2, 6, 7, 8, 9], [5, 1, 2, 0, 3, 4, 6, 7, 8, 9], [5, 1, 2, 3, 0, 4, 6, 7, 8, 9], [5, 1, 2, 3, 4, 0, 6, 7, 8, 9], [5, 1, 2, 3, 4, 6, 0, 7, 8, 9], [5, 1, 2, 3, 4, 6, 7, 0, 8, 9], [5, 1, 3, 0, 2, 4, 6, 7, 8, 9], [5, 1, 3, 0, 4, 2, 6, 7, 8, 9], [5, 1, 3, 2, 0, 4, 6, 7, 8, 9], [5, 1, 3, 2, 4, 0, 6, 7, 8, 9], [5, 1, 3, 2, 4, 6, 0, 7, 8, 9], [5, 1, 3, 2, 4, 6, 7, 0, 8, 9], [5, 1, 3, 4, 0, 2, 6, 7, 8, 9], [5, 1, 3, 4, 2, 0, 6, 7, 8, 9], [5, 1, 3, 4, 2, 6, 0, 7, 8, 9], [5, 1, 3, 4, 2, 6, 7, 0, 8, 9], [5, 3, 0, 1, 2, 4, 6, 7, 8, 9], [5, 3, 0, 1, 4, 2, 6, 7, 8, 9], [5, 3, 0, 4, 1, 2, 6, 7, 8, 9], [5, 3, 1, 0, 2, 4, 6, 7, 8, 9], [5, 3, 1, 0, 4, 2, 6, 7, 8, 9], [5, 3, 1, 2, 0, 4, 6, 7, 8, 9], [5, 3, 1, 2, 4, 0, 6, 7, 8, 9], [5, 3, 1, 2, 4, 6, 0, 7, 8, 9], [5, 3, 1, 2, 4, 6, 7, 0, 8, 9], [5, 3, 1, 4, 0, 2, 6, 7, 8, 9], [5, 3, 1, 4, 2, 0, 6, 7, 8, 9], [5, 3, 1, 4, 2, 6, 0, 7, 8, 9], [5, 3, 1, 4, 2, 6, 7, 0, 8, 9], [5, 3, 4, 0, 1, 2, 6, 7, 8, 9], [5, 3, 4, 1, 0, 2, 6, 7, 8, 9], [5, 3, 4, 1, 2, 0, 6, 7, 8, 9], [5, 3, 4, 1, 2, 6, 0, 7, 8, 9], [5, 3, 4, 1, 2, 6, 7, 0, 8, 9]] (by kernel_rfl) ?_ ?_
      · repeat' (first | exact AllL.nil | exact cs | refine AllL.cons (LinOk.mk rfl ?_ ⟨⟨rfl, rfl, rfl, rfl, rfl, rfl, rfl, rfl, trivial⟩, ⟨rfl, rfl, trivial⟩, rfl, rfl⟩) ?_)
      unfold sOuts
      have cs : allP [e.length ≤ 1000, e.length + 1 ≤ 1000000000] := ⟨(by omega : e.length ≤ 1000), (by omega : e.length + 1 ≤ 1000000000)⟩
      (repeat (first | refine AWP.seq ?_ | refine AWP.skip ?_ | refine AWP.block ?_ | refine AWP.exit ?_)); refine AWP.ordersF 8 (σ' := ⟨[(1, ⟨i64, a⟩), (2, ⟨i64, p⟩), (7, ⟨.obuf oc, (1 : Nat)⟩), (8, ⟨ints, e ++ [gt]⟩), (12, ⟨.slice gr, l⟩), (13, ⟨i64, ((l.length : Nat) : Int)⟩), (14, ⟨i64, (k : Int)⟩)], [(1, some (.buf 72 oc (out ++ [(value (ga, gp, gt, gg, grr, ()), gt, e, ())])))], 4⟩) dM hX kQK_ok 7 rfl (by kernel_rfl) [[0, 1, 2, 3, 4, 5, 6], [0, 2, 1, 3, 4, 5, 6], [0, 2, 3, 1, 4, 5, 6], [0, 2, 3, 4, 1, 5, 6], [2, 0, 1, 3, 4, 5, 6], [2, 0, 3, 1, 4, 5, 6], [2, 0, 3, 4, 1, 5, 6], [2, 3, 0, 1, 4, 5, 6], [2, 3, 0, 4, 1, 5, 6], [2, 3, 4, 0, 1, 5, 6]] (by kernel_rfl) ?_ ?_
      · repeat' (first | exact AllL.nil | exact cs | refine AllL.cons (LinOk.mk rfl ?_ ⟨⟨rfl, rfl, rfl, rfl, rfl, rfl, rfl, trivial⟩, ⟨rfl, trivial⟩, rfl, rfl⟩) ?_)
      (repeat (first | refine AWP.seq ?_ | refine AWP.skip ?_ | refine AWP.block ?_ | refine AWP.exit ?_)); refine AWP.region hX kQK_ok rfl ?_ ?_
      · exact inR_succ (by omega)
      exact ⟨(k + 1, out ++ [(value (ga, gp, gt, gg, grr, ()), gt, e, ())], e ++ [gt]), ⟨by omega, by show (out ++ [_]).length ≤ k + 1; rw [List.length_append, List.length_singleton]; omega, by show (e ++ [gt]).length ≤ k + 1; rw [List.length_append, List.length_singleton]; omega, hout⟩, by show l.length - (k + 1) < l.length - k; omega, ⟨rfl, rfl, rfl, rfl, rfl, rfl, vSucc _, trivial⟩, ⟨rfl, trivial⟩, rfl, rfl⟩
    · have h2 : (!decide (gt ∈ e)) = false := hb
      have h2 : gt ∈ e := by simpa using h2
      rw [if_pos (show gT (ga, gp, gt, gg, grr, ()) ∈ e from h2)] at hout
      (repeat (first | refine AWP.seq ?_ | refine AWP.skip ?_ | refine AWP.block ?_ | refine AWP.exit ?_)); refine AWP.region hX kQK_ok rfl ?_ ?_
      · exact inR_succ (by omega)
      exact ⟨(k + 1, out, e), ⟨by omega, by show out.length ≤ k + 1; omega, by show e.length ≤ k + 1; omega, hout⟩, by show l.length - (k + 1) < l.length - k; omega, ⟨rfl, rfl, rfl, rfl, rfl, rfl, vSucc _, trivial⟩, ⟨rfl, trivial⟩, rfl, rfl⟩
  · have hb : decide ((k : Int) < (l.length : Nat)) = false := hb
    have hb := of_decide_eq_false hb
    have : k = l.length := by omega
    subst this
    rw [List.drop_length] at hout
    unfold outsF at hout
    (repeat (first | refine AWP.seq ?_ | refine AWP.skip ?_ | refine AWP.block ?_ | refine AWP.exit ?_)); refine AWP.region hX kQK_ok rfl ?_ ?_
    · show out.length + 1 ≤ 1000000000
      omega
    refine AWP.frz hX 6 ?_
    exact AWP.ret ⟨.inr rfl, done1 rfl trivial rfl rfl hout⟩
end Go.Proofs.YtbbeldmcdjjnbaaGreatDoor
