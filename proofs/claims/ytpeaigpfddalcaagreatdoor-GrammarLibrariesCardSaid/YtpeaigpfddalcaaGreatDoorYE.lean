/-
  Texts of this claim, joined: what the statement's proof uses.
-/
import Derived.Test.YtpeaigpfddalcaaGreatDoorYD
namespace Go.Proofs.YtpeaigpfddalcaaGreatDoor
open Go Go.RowKit
set_option linter.unusedSimpArgs false
set_option linter.unusedVariables false
set_option maxRecDepth 100000
set_option maxRecDepth 10000
set_option maxRecDepth 100000
set_option maxRecDepth 10000
theorem zo7 {n : Nd} (h : zjC n) : (zdL n).length ≤ 2100 := by
  obtain ⟨⟨hC, hN, hM⟩, hI, hl, hs, _⟩ := h
  have l1 : ∀ w : List UInt8, w.length ≤ 10 -> ∀ l : List Int, l.length ≤ 3 -> (∀ x ∈ l, zbS x) -> (putS w l).length ≤ 67 := fun w hw l hl hx => by
    have := zbu hx
    unfold putS
    rw [List.length_append]
    omega
  have l2 : (zb0 (ndI n)).length ≤ 2001 := by
    have := zeQ (ndI n) 0 hI
    unfold zb0
    rw [List.length_append, List.length_singleton]
    omega
  have p0 : ∀ x ∈ ([] : List Int), zbS x := fun x hx => by cases hx
  have p1 : ∀ x ∈ [ndC n], zbS x := fun x hx => by rw [List.mem_singleton.1 hx]; exact hC
  have p2 : ∀ x ∈ [ndN n, ndM n], zbS x := fun x hx => by
    rcases List.mem_cons.1 hx with rfl | hx
    · exact hN
    · rw [List.mem_singleton.1 hx]; exact hM
  have p3 : ∀ x ∈ [ndC n, ndN n, ndM n], zbS x := fun x hx => by
    rcases List.mem_cons.1 hx with rfl | hx
    · exact hC
    · exact p2 x hx
  unfold zdL
  split
  · exact Nat.le_trans (l1 _ (by decide) _ (by simp) p2) (by decide)
  split
  · exact Nat.le_trans (l1 _ (by decide) _ (by simp) p3) (by decide)
  split
  · rw [List.length_append]; have := l1 zce (by decide) _ (by simp) p1; omega
  split
  · rw [List.length_append]; have := l1 zaZ (by decide) _ (by simp) p1; omega
  split
  · rw [List.length_append]; have := l1 zbh (by decide) _ (by simp) p0; omega
  split
  · rw [List.length_append]; have := l1 zc4 (by decide) _ (by simp) p1; omega
  split
  · rw [List.length_append]
    have := l1 wNth (by decide) _ (by simp) p3
    have := l1 (zcg (ndL n)) (zde _) [] (by decide) p0
    omega
  split
  · show (64 :: ndS n ++ []).length ≤ _
    rw [List.append_nil, List.length_cons]; omega
  · exact Nat.zero_le _
theorem zmm {n : Nd} (b : List UInt8) (h : zjC n) : (zcr b n).length ≤ 2200 + b.length := by
  obtain ⟨⟨hC, hN, hM⟩, hI, hl, hs, _⟩ := h
  have l1 : ∀ w : List UInt8, w.length ≤ 10 -> ∀ l : List Int, l.length ≤ 3 -> (∀ x ∈ l, zbS x) -> (putS w l).length ≤ 67 := fun w hw l hl hx => by
    have := zbu hx
    unfold putS
    rw [List.length_append]
    omega
  have l2 : (zb0 (ndI n)).length ≤ 2001 := by
    have := zeQ (ndI n) 0 hI
    unfold zb0
    rw [List.length_append, List.length_singleton]
    omega
  have p0 : ∀ x ∈ ([] : List Int), zbS x := fun x hx => by cases hx
  have p1 : ∀ x ∈ [ndC n], zbS x := fun x hx => by rw [List.mem_singleton.1 hx]; exact hC
  have p2 : ∀ x ∈ [ndN n], zbS x := fun x hx => by rw [List.mem_singleton.1 hx]; exact hN
  unfold zcr
  split
  · have := l1 (spW zey) (by decide) _ (by simp) p2; omega
  split
  · have := l1 (spW zhH) (by decide) _ (by simp) p2; omega
  split
  · have := l1 (spW zex) (by decide) _ (by simp) p2; omega
  split
  · rw [List.length_append]; have := l1 (spW zeA) (by decide) _ (by simp) p0; omega
  split
  · rw [List.length_append]; have := l1 (spW zcf) (by decide) _ (by simp) p0; omega
  split
  · rw [List.length_append, List.length_append]
    have := l1 (spW wPos) (by decide) _ (by simp) p1
    have := l1 (zcg (ndM n)) (zde _) [] (by decide) p0
    omega
  split
  · rw [List.length_append, List.length_append]
    have := l1 (spW zbQ) (by decide) _ (by simp) p2
    have := l1 (spW wOf ++ [32]) (by decide) [] (by decide) p0
    omega
  · exact Nat.zero_le _
theorem zfU : ∀ t : Tr, TrOk t -> t.text.length ≤ 3000 * t.size
  | .leaf n, h => by
    have := zo7 (zkI h.1)
    show (zdL n).length ≤ 3000 * 1
    omega
  | .un n a, h => by
    have h1 := zmm [] (zkI h.1)
    have h2 := zfU a h.2.2.2
    have h3 := zeL (decide (a.lev ≥ 4)) a.text
    show (parS _ a.text ++ zcr [] n).length ≤ 3000 * (a.size + 1)
    rw [List.length_append]
    rw [List.length_nil] at h1
    omega
  | .bin n a b, h => by
    have h1 := zfU a h.2.2.2.1
    have h2 := zfU b h.2.2.2.2
    show _ ≤ 3000 * (a.size + b.size + 1)
    rw [zkw]
    split
    · have h3 := zeL (decide (a.lev ≥ 4)) a.text
      have h4 := zeL (decide (b.lev ≥ 5)) b.text
      have h5 := zmm (parS (decide (b.lev ≥ 5)) b.text) (zkI h.1)
      rw [List.length_append]
      omega
    · have h3 := zeL (decide (a.lev ≥ levS (ndK n))) a.text
      have h4 := zeL (decide (b.lev ≥ levS (ndK n) + 1)) b.text
      have h5 : (putS ([32] ++ opWd (levS (ndK n)) ++ [32]) []).length ≤ 20 := by
        have h6 := zj1 (ndK n)
        show (([32] ++ opWd (levS (ndK n)) ++ [32]) ++ [] : List UInt8).length ≤ 20
        rcases (show levS (ndK n) = 1 ∨ levS (ndK n) = 2 ∨ levS (ndK n) = 3 ∨ levS (ndK n) = 4 ∨ levS (ndK n) = 5 by omega) with e | e | e | e | e <;> rw [e] <;> decide
      rw [List.length_append, List.length_append]
      omega
theorem zqi {t : Tr} (h : TrOk t) (hs : t.size ≤ 64) : t.text ≠ [] := fun e => by
  have h1 := zlK h hs
  rw [e] at h1
  have h2 : (match zee [] with | .ok _ => true | .error _ => false) = false := by kernel_rfl
  rw [h1] at h2
  cases h2
set_option maxRecDepth 100000
def guT : Tbl := (236, .int .u64) :: gmT
theorem guT_ok : TOk Tryz.prog guT gmQ := zpI (by kernel_rfl) (by kernel_rfl)
def guK : Kn := { T := guT, Q := gmQ, U := gmU, C := [] }
theorem zjg : KnOk Tryz.prog gmH guK := ⟨guT_ok, zgG, CsOk.nil, zhA, RsOk.nil⟩
def cMag : Ctr := { args := [i64], pre := fun x => [0 ≤ x.1], res := .int .u64, own := none, out := fun x => BitVec.ofInt 64 x.1 }
theorem mag_ok : CtrOk Tryz.prog gmH 223 cMag := by
  refine zaq (K := guK) zjg Tryz.func223 rfl rfl Tryz.call223 rfl (by decide) (by intro h; cases h) ?_
  rintro w0 X hX ⟨(n : Int), _⟩ hp
  have hn : 0 ≤ n := hp
  change AWP _ _ _ _ _ ⟨[(0, ⟨i64, n⟩)], [], 0⟩ _
  (repeat (first | refine zae ?_ | refine zac ?_ | refine zab ?_ | refine zad ?_)); refine zaa hX zjg rfl ?_ ?_
  · trivial
  (repeat (first | refine zae ?_ | refine zac ?_ | refine zab ?_ | refine zad ?_)); refine zaa hX zjg rfl ?_ ?_
  · trivial
  refine zai rfl (fun hb => ?_) (fun hb => ?_)
  · have hb : decide (n < 0) = true := hb
    have hb := of_decide_eq_true hb
    omega
  refine zac ?_
  (repeat (first | refine zae ?_ | refine zac ?_ | refine zab ?_ | refine zad ?_)); refine zaa hX zjg rfl ?_ ?_
  · trivial
  refine AWP.ret ⟨.inr rfl, zay rfl trivial rfl rfl ?_⟩
  rfl
theorem bvI {a : Int} (h : 0 ≤ a) : (⟨.int .u64, BitVec.ofInt 64 a⟩ : V) = ⟨.int .u64, BitVec.ofNat 64 a.toNat⟩ := by
  have : BitVec.ofInt 64 a = BitVec.ofNat 64 a.toNat := by
    conv => lhs; rw [<- Int.toNat_of_nonneg h]
    exact BitVec.ofInt_natCast ..
  rw [this]
theorem bvN {y : Nat} (h : y ≤ 1000000000000000) : (BitVec.ofNat 64 y).toNat = y := by
  rw [BitVec.toNat_ofNat]; exact Nat.mod_eq_of_lt (by omega)
theorem bvR {x y : Nat} (hx : x ≤ 1000000000000000) (hy : y ≤ 1000000000000000) : (⟨.int .u64, BitVec.ofNat 64 x % BitVec.ofNat 64 y⟩ : V) = ⟨.int .u64, BitVec.ofNat 64 (x % y)⟩ := by
  have hm : x % y ≤ x := Nat.mod_le ..
  have : BitVec.ofNat 64 x % BitVec.ofNat 64 y = BitVec.ofNat 64 (x % y) := BitVec.eq_of_toNat_eq (by rw [BitVec.toNat_umod, bvN hx, bvN hy, bvN (by omega)])
  rw [this]
def cGcd : Ctr := { args := [i64, i64], pre := fun x => [1 ≤ x.1, x.1 ≤ 1000000000000000, 1 ≤ x.2.1, x.2.1 ≤ 1000000000000000], res := i64, own := none, out := fun x => ((Nat.gcd x.2.1.toNat x.1.toNat : Nat) : Int) }
def kGcd : Kn := { guK with C := [(223, cMag)] }
theorem zer : KnOk Tryz.prog gmH kGcd := zjg.with (.cons mag_ok .nil)
theorem gcd_ok : CtrOk Tryz.prog gmH 190 cGcd := by
  refine zaq (K := kGcd) zer Tryz.func190 rfl rfl Tryz.call190 rfl (by decide) (by intro h; cases h) ?_
  rintro w0 X hX ⟨(a : Int), (b : Int), _⟩ hp
  obtain ⟨ha, ha', hb, hb'⟩ : 1 ≤ a ∧ a ≤ 1000000000000000 ∧ 1 ≤ b ∧ b ≤ 1000000000000000 := by
    simp only [cGcd, allP] at hp
    simpa using hp
  change AWP _ _ _ _ _ ⟨[(0, ⟨i64, a⟩), (1, ⟨i64, b⟩)], [], 0⟩ _
  refine zae ?_
  (repeat (first | refine zae ?_ | refine zac ?_ | refine zab ?_ | refine zad ?_)); refine zaa hX zer rfl ?_ ?_
  · trivial
  (repeat (first | refine zae ?_ | refine zac ?_ | refine zab ?_ | refine zad ?_)); refine zaa hX zer rfl ?_ ?_
  · have h1 : 0 ≤ a := by omega
    have h2 : 0 ≤ b := by omega
    repeat' (first | exact trivial | exact h1 | exact h2 | (refine ⟨?_, ?_⟩) | (intro _))
  (repeat (first | refine zae ?_ | refine zac ?_ | refine zab ?_ | refine zad ?_));
  refine AWP.loop (ι := Nat × Nat) (fun p => ⟨[(0, ⟨i64, a⟩), (1, ⟨i64, b⟩), (5, ⟨.int .u64, BitVec.ofNat 64 p.1⟩), (6, ⟨.int .u64, BitVec.ofNat 64 p.2⟩)], [], 0⟩) (fun p => p.1 ≤ 1000000000000000 ∧ p.2 ≤ 1000000000000000 ∧ Nat.gcd p.2 p.1 = Nat.gcd b.toNat a.toNat) (fun p => p.2) (a.toNat, b.toNat) ⟨by omega, by omega, rfl⟩ ⟨⟨rfl, rfl, bvI (by omega), bvI (by omega), trivial⟩, trivial, rfl, rfl⟩ ?_
  rintro ⟨x, y⟩ ⟨hx, hy, hg⟩
  have hx : x ≤ 1000000000000000 := hx
  have hy : y ≤ 1000000000000000 := hy
  have hg : Nat.gcd y x = Nat.gcd b.toNat a.toNat := hg
  (repeat (first | refine zae ?_ | refine zac ?_ | refine zab ?_ | refine zad ?_)); refine zaa hX zer rfl ?_ ?_
  · trivial
  refine zai rfl (fun hb => ?_) (fun hb => ?_)
  · have hc : ((((BitVec.ofNat 64 y).toNat : Nat) : Int) != 0) = true := hb
    have hy1 : y ≠ 0 := fun e => by subst e; exact absurd hc (by decide)
    have hy0 : BitVec.ofNat 64 y ≠ 0 := fun e => hy1 (by have := congrArg BitVec.toNat e; rw [bvN hy] at this; exact this)
    (repeat (first | refine zae ?_ | refine zac ?_ | refine zab ?_ | refine zad ?_)); refine AWP.orders (σ' := ⟨[(0, ⟨i64, a⟩), (1, ⟨i64, b⟩), (5, ⟨.int .u64, BitVec.ofNat 64 y⟩), (6, ⟨.int .u64, BitVec.ofNat 64 (x % y)⟩)], [], 0⟩) dM hX zer 6 rfl (by kernel_rfl) [[0, 1, 2, 3, 4, 5], [0, 1, 2, 4, 3, 5], [0, 1, 4, 2, 3, 5], [0, 2, 1, 3, 4, 5], [0, 2, 1, 4, 3, 5], [1, 0, 2, 3, 4, 5], [1, 0, 2, 4, 3, 5], [1, 0, 4, 2, 3, 5], [1, 2, 0, 3, 4, 5], [1, 2, 0, 4, 3, 5], [1, 2, 3, 0, 4, 5], [2, 0, 1, 3, 4, 5], [2, 0, 1, 4, 3, 5], [2, 1, 0, 3, 4, 5], [2, 1, 0, 4, 3, 5], [2, 1, 3, 0, 4, 5]] (by kernel_rfl) ?_ ?_
    · repeat' (first | exact AllL.nil | refine AllL.cons (LinOk.mk rfl ?_ ⟨⟨rfl, rfl, rfl, bvR hx hy, trivial⟩, trivial, rfl, rfl⟩) ?_)
      all_goals (repeat' (first | exact trivial | exact hy0 | (refine ⟨?_, ?_⟩) | (intro _)))
    exact ⟨(y, x % y), ⟨hy, Nat.le_trans (Nat.mod_le ..) hx, by rw [<- Nat.gcd_rec]; exact hg⟩, Nat.mod_lt _ (by omega), ⟨rfl, rfl, rfl, rfl, trivial⟩, trivial, rfl, rfl⟩
  · have hc : ((((BitVec.ofNat 64 y).toNat : Nat) : Int) != 0) = false := hb
    rw [bvN hy] at hc
    have hy0 : y = 0 := by
      have := bne_eq_false_iff_eq.1 hc
      omega
    subst hy0
    rw [Nat.gcd_zero_left] at hg
    refine zad ?_
    (repeat (first | refine zae ?_ | refine zac ?_ | refine zab ?_ | refine zad ?_)); refine zaa hX zer rfl ?_ ?_
    · trivial
    refine zai rfl (fun hd => ?_) (fun hd => ?_)
    · have hd : decide ((((BitVec.ofNat 64 x).toNat : Nat) : Int) > 9223372036854775807) = true := hd
      rw [bvN hx] at hd
      have := of_decide_eq_true hd
      omega
    refine zac ?_
    (repeat (first | refine zae ?_ | refine zac ?_ | refine zab ?_ | refine zad ?_)); refine zaa hX zer rfl ?_ ?_
    · show inR .i64 (((BitVec.ofNat 64 x).toNat : Nat) : Int)
      rw [bvN hx]
      exact zat (by omega) (by omega)
    refine AWP.ret ⟨.inr rfl, zay rfl trivial rfl rfl ?_⟩
    show (((BitVec.ofNat 64 x).toNat : Nat) : Int) = ((Nat.gcd b.toNat a.toNat : Nat) : Int)
    rw [bvN hx, hg]
theorem znp {x y : Nat} (hx : 1 ≤ x) : x / Nat.gcd y x * y = Nat.lcm x y := by
  have hg : Nat.gcd y x ∣ x := Nat.gcd_dvd_right y x
  have hp : 0 < Nat.gcd y x := Nat.gcd_pos_of_pos_right _ (by omega)
  obtain ⟨k, hk⟩ := hg
  unfold Nat.lcm
  rw [Nat.gcd_comm x y]
  generalize Nat.gcd y x = g at *
  subst hk
  rw [Nat.mul_div_cancel_left _ hp, Nat.mul_assoc, Nat.mul_div_cancel_left _ hp]
def cLcm : Ctr := { args := [i64, i64], pre := fun x => [1 ≤ x.1, x.1 ≤ 1000, 1 ≤ x.2.1, x.2.1 ≤ 1000], res := .tup i64 (.tup i64 .unit), own := none, out := fun x => (((Nat.lcm x.1.toNat x.2.1.toNat : Nat) : Int), (0 : Int), ()) }
def kLcm : Kn := { gmK with C := [(190, cGcd)] }
theorem zfl : KnOk Tryz.prog gmH kLcm := zaj.with (.cons gcd_ok .nil)
theorem lcm_ok : CtrOk Tryz.prog gmH 158 cLcm := by
  refine zaq (K := kLcm) zfl Tryz.func158 rfl rfl Tryz.call158 rfl (by decide) (by intro h; cases h) ?_
  rintro w0 X hX ⟨(a : Int), (b : Int), _⟩ hp
  obtain ⟨ha, ha', hb, hb'⟩ : 1 ≤ a ∧ a ≤ 1000 ∧ 1 ≤ b ∧ b ≤ 1000 := by
    simp only [cLcm, allP] at hp
    simpa using hp
  change AWP _ _ _ _ _ ⟨[(0, ⟨i64, a⟩), (1, ⟨i64, b⟩)], [], 0⟩ _
  (repeat (first | refine zae ?_ | refine zac ?_ | refine zab ?_ | refine zad ?_)); refine zaa hX zfl rfl ?_ ?_
  · trivial
  (repeat (first | refine zae ?_ | refine zac ?_ | refine zab ?_ | refine zad ?_)); refine zaa hX zfl rfl ?_ ?_
  · exact ⟨id, id⟩
  have t1 : (bif decide (a < 1) then true else decide (b < 1)) = false := by
    rw [decide_eq_false (by omega), decide_eq_false (by omega)]; rfl
  refine zai rfl (fun hc => ?_) (fun _ => ?_)
  · have hc : (bif decide (a < 1) then true else decide (b < 1)) = true := hc
    rw [t1] at hc; cases hc
  refine zac ?_
  have hg : 0 < Nat.gcd b.toNat a.toNat := Nat.gcd_pos_of_pos_right _ (by omega)
  have hq : a.tdiv ((Nat.gcd b.toNat a.toNat : Nat) : Int) = ((a.toNat / Nat.gcd b.toNat a.toNat : Nat) : Int) := by
    conv => lhs; rw [<- Int.toNat_of_nonneg (by omega : 0 ≤ a)]
    exact Int.ofNat_tdiv ..
  have hqle : a.toNat / Nat.gcd b.toNat a.toNat ≤ a.toNat := Nat.div_le_self ..
  have hq1000 : a.toNat / Nat.gcd b.toNat a.toNat ≤ 1000 := by omega
  have q1 : ((Nat.gcd b.toNat a.toNat : Nat) : Int) ≠ 0 := by omega
  have q2 : inR .i64 (a.tdiv ((Nat.gcd b.toNat a.toNat : Nat) : Int)) := by rw [hq]; generalize a.toNat / Nat.gcd b.toNat a.toNat = z at hq1000; exact zat (by omega) (by omega)
  have big1 : a ≤ 1000000000000000 := by omega
  have big2 : b ≤ 1000000000000000 := by omega
  (repeat (first | refine zae ?_ | refine zac ?_ | refine zab ?_ | refine zad ?_)); refine zaa hX zfl rfl ?_ ?_
  · exact ⟨ha, big1, hb, big2, q1, q2⟩
  refine zan (σ' := ⟨[(0, ⟨i64, a⟩), (1, ⟨i64, b⟩), (6, ⟨i64, ((a.toNat / Nat.gcd b.toNat a.toNat : Nat) : Int)⟩)], [], 0⟩) ⟨⟨rfl, rfl, vI64 hq, trivial⟩, trivial, rfl, rfl⟩ ?_
  have hd : (1099511627776 : Int).tdiv b = ((1099511627776 / b.toNat : Nat) : Int) := by
    conv => lhs; rw [<- Int.toNat_of_nonneg (by omega : 0 ≤ b)]
    exact Int.ofNat_tdiv ..
  have hd1 : 1099511627776 / 1000 ≤ 1099511627776 / b.toNat := Nat.div_le_div_left (by omega) (by omega)
  have hd2 : 1099511627776 / b.toNat ≤ 1099511627776 := Nat.div_le_self ..
  have q3 : b ≠ 0 := by omega
  have q4 : inR .i64 ((1099511627776 : Int).tdiv b) := by rw [hd]; exact zat (by omega) (by omega)
  (repeat (first | refine zae ?_ | refine zac ?_ | refine zab ?_ | refine zad ?_)); refine zaa hX zfl rfl ?_ ?_
  · exact ⟨q3, q4⟩
  refine zai rfl (fun hc => ?_) (fun _ => ?_)
  · have hc : decide (((a.toNat / Nat.gcd b.toNat a.toNat : Nat) : Int) > (1099511627776 : Int).tdiv b) = true := hc
    have hc := of_decide_eq_true hc
    rw [hd] at hc
    omega
  refine zac ?_
  have hm : ((a.toNat / Nat.gcd b.toNat a.toNat : Nat) : Int) * b = ((Nat.lcm a.toNat b.toNat : Nat) : Int) := by
    rw [<- znp (x := a.toNat) (y := b.toNat) (by omega), Int.natCast_mul, Int.toNat_of_nonneg (by omega : 0 ≤ b)]
  have hml : Nat.lcm a.toNat b.toNat ≤ 1000000 := by
    rw [<- znp (x := a.toNat) (y := b.toNat) (by omega)]
    exact Nat.mul_le_mul (by omega : _ ≤ 1000) (by omega : b.toNat ≤ 1000)
  have q5 : inR .i64 (((a.toNat / Nat.gcd b.toNat a.toNat : Nat) : Int) * b) := by rw [hm]; exact zat (by omega) (by omega)
  (repeat (first | refine zae ?_ | refine zac ?_ | refine zab ?_ | refine zad ?_)); refine zaa hX zfl rfl ?_ ?_
  · exact q5
  refine AWP.ret ⟨.inr rfl, zba (by decide) rfl rfl trivial ?_⟩
  show (((a.toNat / Nat.gcd b.toNat a.toNat : Nat) : Int) * b, (0 : Int), ()) = (((Nat.lcm a.toNat b.toNat : Nat) : Int), (0 : Int), ())
  rw [hm]
abbrev Lr := Int × Int × Bool × Unit
def zoZ (r : Lr) : Bool := decide (r.1 < 1) || decide (r.1 > 400) || decide (r.2.1 < 0) || decide (r.2.1 ≥ r.1)
def perS (y : Nat) : List Lr -> Int × Bool
  | [] => ((y : Int), true)
  | r :: l => if zoZ r = true then (0, false) else if 400 < Nat.lcm y r.1.toNat then (0, false) else perS (Nat.lcm y r.1.toNat) l
def cPer : Ctr := { args := [.slice lru], pre := fun _ => [], res := .tup i64 (.tup .bool .unit), own := none, out := fun x => ((perS 1 x.1).1, (perS 1 x.1).2, ()) }
def kPer : Kn := { gmK with C := [(158, cLcm)] }
theorem zbv : KnOk Tryz.prog gmH kPer := zaj.with (.cons lcm_ok .nil)
def zLr : Lr := (0, 0, false, ())
theorem zm1 : CtrOk Tryz.prog gmH 125 cPer := by
  refine zaq (K := kPer) zbv Tryz.func125 rfl rfl Tryz.call125 rfl (by decide) (by intro h; cases h) ?_
  rintro w0 X hX ⟨(l : List Lr), _⟩ hp
  change AWP _ _ _ _ _ ⟨[(0, ⟨.slice lru, l⟩)], [], 0⟩ _
  refine AWP.len 0 rfl fun hl => ?_
  unfold maxLen at hl
  (repeat (first | refine zae ?_ | refine zac ?_ | refine zab ?_ | refine zad ?_)); refine zaa hX zbv rfl ?_ ?_
  · trivial
  (repeat (first | refine zae ?_ | refine zac ?_ | refine zab ?_ | refine zad ?_)); refine zaa hX zbv rfl ?_ ?_
  · trivial
  (repeat (first | refine zae ?_ | refine zac ?_ | refine zab ?_ | refine zad ?_)); refine zaa hX zbv rfl ?_ ?_
  · trivial
  (repeat (first | refine zae ?_ | refine zac ?_ | refine zab ?_ | refine zad ?_));
  refine AWP.loop (ι := Nat × Nat) (fun p => ⟨[(0, ⟨.slice lru, l⟩), (4, ⟨i64, (p.2 : Int)⟩), (9, ⟨.slice lru, l⟩), (10, ⟨i64, ((l.length : Nat) : Int)⟩), (11, ⟨i64, (p.1 : Int)⟩)], [], 0⟩) (fun p => p.1 ≤ l.length ∧ (1 ≤ p.2 ∧ p.2 ≤ 400) ∧ perS 1 l = perS p.2 (l.drop p.1)) (fun p => l.length - p.1) (0, 1) ⟨Nat.zero_le _, ⟨by decide, by decide⟩, rfl⟩ ⟨⟨rfl, rfl, rfl, rfl, rfl, trivial⟩, trivial, rfl, rfl⟩ ?_
  rintro ⟨k, y⟩ ⟨hk, hy, hr⟩
  have hk : k ≤ l.length := hk
  have hy : 1 ≤ y ∧ y ≤ 400 := hy
  have hr : perS 1 l = perS y (l.drop k) := hr
  (repeat (first | refine zae ?_ | refine zac ?_ | refine zab ?_ | refine zad ?_)); refine zaa hX zbv rfl ?_ ?_
  · trivial
  refine zae ?_
  refine zai rfl (fun hb => ?_) (fun hb => ?_)
  · have hb : decide ((k : Int) < (l.length : Nat)) = true := hb
    have hb := of_decide_eq_true hb
    have hlt : k < l.length := by omega
    have n0 : (0 : Int) ≤ (k : Int) := by omega
    have hgd : l.getD (k : Int).toNat zLr = l[k] := zaR hlt
    rw [List.drop_eq_getElem_cons hlt, perS, <- hgd] at hr
    (repeat (first | refine zae ?_ | refine zac ?_ | refine zab ?_ | refine zad ?_)); refine zaa hX zbv rfl ?_ ?_
    · exact ⟨n0, hb⟩
    generalize hG : l.getD (k : Int).toNat zLr = G at hr
    obtain ⟨(ev : Int), (rs : Int), (ye : Bool), ⟨⟩⟩ := G
    refine zan (σ' := ⟨[(0, ⟨.slice lru, l⟩), (4, ⟨i64, (y : Int)⟩), (9, ⟨.slice lru, l⟩), (10, ⟨i64, ((l.length : Nat) : Int)⟩), (11, ⟨i64, (k : Int)⟩), (6, ⟨.optr lru, ⟨0, lru, .here⟩⟩)], [(0, some (.box lru (ev, rs, ye, ())))], 1⟩) ⟨⟨rfl, rfl, rfl, rfl, rfl, rfl, trivial⟩, ⟨ze5 hG, trivial⟩, rfl, rfl⟩ ?_
    (repeat (first | refine zae ?_ | refine zac ?_ | refine zab ?_ | refine zad ?_)); refine zaa hX zbv rfl ?_ ?_
    · repeat' (first | exact trivial | assumption | (refine ⟨?_, ?_⟩) | (intro _) | exact Nat.le_of_ble_eq_true rfl | exact Int.natCast_nonneg _ | (simp_all [allP]; done))
    have hbe : zoZ (ev, rs, ye, ()) = (bif (bif (bif decide (ev < 1) then true else decide (ev > 400)) then true else decide (rs < 0)) then true else decide (rs ≥ ev)) := by
      unfold zoZ
      rw [b_or, b_or, b_or]
    refine zai rfl (fun hc => ?_) (fun hc => ?_)
    · have hc := hbe.trans hc
      (repeat (first | refine zae ?_ | refine zac ?_ | refine zak ?_ | refine zad ?_ | refine zab ?_ | refine zaa hX zbv rfl trivial ?_ | refine zaa hX zbv rfl id ?_ | refine zaa hX zbv rfl ⟨id, id⟩ ?_))
      refine AWP.ret ⟨.inr rfl, zba (by decide) rfl rfl trivial ?_⟩
      show ((0 : Int), false, ()) = ((perS 1 l).1, (perS 1 l).2, ())
      rw [hr, if_pos hc]
    have hc := hbe.trans hc
    have hn := hc
    unfold zoZ at hn
    simp only [Bool.or_eq_false_iff, decide_eq_false_iff_not] at hn
    obtain ⟨⟨⟨n1, n2⟩, n3⟩, n4⟩ := hn
    have n1 : ¬ ev < 1 := n1
    have n2 : ¬ ev > 400 := n2
    refine zac ?_
    have l1 : (1 : Int) ≤ (y : Int) := by omega
    have l2 : (y : Int) ≤ 1000 := by omega
    have l3 : 1 ≤ ev := by omega
    have l4 : ev ≤ 1000 := by omega
    (repeat (first | refine zae ?_ | refine zac ?_ | refine zab ?_ | refine zad ?_)); refine zaa hX zbv rfl ?_ ?_
    · exact ⟨l1, l2, l3, l4⟩
    refine zan (σ' := ⟨[(0, ⟨.slice lru, l⟩), (4, ⟨i64, (y : Int)⟩), (9, ⟨.slice lru, l⟩), (10, ⟨i64, ((l.length : Nat) : Int)⟩), (11, ⟨i64, (k : Int)⟩), (7, ⟨i64, ((Nat.lcm y ev.toNat : Nat) : Int)⟩), (8, ⟨i64, 0⟩)], [], 1⟩) ⟨⟨rfl, rfl, rfl, rfl, rfl, rfl, rfl, trivial⟩, trivial, rfl, rfl⟩ ?_
    (repeat (first | refine zae ?_ | refine zac ?_ | refine zab ?_ | refine zad ?_)); refine zaa hX zbv rfl ?_ ?_
    · repeat' (first | exact trivial | assumption | (refine ⟨?_, ?_⟩) | (intro _) | exact Nat.le_of_ble_eq_true rfl | exact Int.natCast_nonneg _ | (simp_all [allP]; done))
    refine zai rfl (fun hd => ?_) (fun hd => ?_)
    · have hd : decide (((Nat.lcm y ev.toNat : Nat) : Int) > 400) = true := hd
      have hd := of_decide_eq_true hd
      (repeat (first | refine zae ?_ | refine zac ?_ | refine zak ?_ | refine zad ?_ | refine zab ?_ | refine zaa hX zbv rfl trivial ?_ | refine zaa hX zbv rfl id ?_ | refine zaa hX zbv rfl ⟨id, id⟩ ?_))
      refine AWP.ret ⟨.inr rfl, zba (by decide) rfl rfl trivial ?_⟩
      show ((0 : Int), false, ()) = ((perS 1 l).1, (perS 1 l).2, ())
      rw [hr, if_neg (by rw [hc]; decide), if_pos (by show 400 < Nat.lcm y ev.toNat; omega)]
    · have hd : decide (((Nat.lcm y ev.toNat : Nat) : Int) > 400) = false := hd
      have hd := of_decide_eq_false hd
      have hlp : 0 < Nat.lcm y ev.toNat := Nat.lcm_pos (by omega) (by omega)
      refine zac ?_
      (repeat (first | refine zae ?_ | refine zac ?_ | refine zab ?_ | refine zad ?_)); refine zaa hX zbv rfl ?_ ?_
      · trivial
      (repeat (first | refine zae ?_ | refine zac ?_ | refine zab ?_ | refine zad ?_)); refine zaa hX zbv rfl ?_ ?_
      · exact zaT (by omega)
      refine ⟨(k + 1, Nat.lcm y ev.toNat), ⟨hlt, ⟨hlp, by show Nat.lcm y ev.toNat ≤ 400; omega⟩, ?_⟩, by show l.length - (k + 1) < l.length - k; omega, ⟨rfl, rfl, rfl, rfl, zdA _, trivial⟩, trivial, rfl, rfl⟩
      rw [hr, if_neg (by rw [hc]; decide), if_neg (by show ¬ 400 < Nat.lcm y ev.toNat; omega)]
  · have hb : decide ((k : Int) < (l.length : Nat)) = false := hb
    have hb := of_decide_eq_false hb
    have : k = l.length := by omega
    subst this
    rw [List.drop_length, perS] at hr
    (repeat (first | refine zae ?_ | refine zac ?_ | refine zak ?_ | refine zad ?_ | refine zab ?_ | refine zaa hX zbv rfl trivial ?_ | refine zaa hX zbv rfl id ?_ | refine zaa hX zbv rfl ⟨id, id⟩ ?_))
    refine AWP.ret ⟨.inr rfl, zba (by decide) rfl rfl trivial ?_⟩
    show ((y : Int), true, ()) = ((perS 1 l).1, (perS 1 l).2, ())
    rw [hr]
theorem zjX (c : UInt8) : isLt c = ((decide (97 ≤ (c.toNat : Int)) && decide ((c.toNat : Int) ≤ 122)) || (decide (65 ≤ (c.toNat : Int)) && decide ((c.toNat : Int) ≤ 90))) := by
  have h : ∀ n : Fin 256, (isLt (UInt8.ofNat n.val) == ((decide (97 ≤ ((UInt8.ofNat n.val).toNat : Int)) && decide (((UInt8.ofNat n.val).toNat : Int) ≤ 122)) || (decide (65 ≤ ((UInt8.ofNat n.val).toNat : Int)) && decide (((UInt8.ofNat n.val).toNat : Int) ≤ 90)))) = true := by decide +kernel
  have := h ⟨c.toNat, c.toNat_lt⟩
  rw [UInt8.ofNat_toNat] at this
  exact beq_iff_eq.1 this
theorem zmb (s : ByteArray) (pos : Nat) (h : pos < s.size) : 1 ≤ (Utf8.decode s pos).2 := by
  by_cases ha : (s[pos]'h).toNat < 128
  · rw [decode_ascii s pos h ha]
    exact Nat.le_refl _
  · exact (decode_high s pos h (by omega)).2
def LtR (c : Int) : Prop := (97 ≤ c ∧ c ≤ 122) ∨ (65 ≤ c ∧ c ≤ 90)
def DgR (c : Int) : Prop := (48 ≤ c ∧ c ≤ 57) ∨ c = 45
theorem zm6 {l : List UInt8} {pos c wd : Nat} (hp : pos < l.length) (hdec : (l[pos].toNat < 128 ∧ (c, wd) = (l[pos].toNat, 1)) ∨ (128 ≤ l[pos].toNat ∧ 128 ≤ c)) (hhd : 0 < pos -> l.head?.all isLt = true) (hall : (l.take pos).all isPt = true)
    (h : LtR c ∨ (pos ≠ 0 ∧ DgR c)) : wd = 1 ∧ l.head?.all isLt = true ∧ (l.take (pos + 1)).all isPt = true := by
  unfold LtR DgR at h
  rcases hdec with ⟨h1, e⟩ | ⟨h1, e⟩
  · have e1 : c = l[pos].toNat := congrArg (fun x => x.1) e
    have e2 : wd = 1 := congrArg (fun x => x.2) e
    have hpt : isPt l[pos] = true := by
      unfold isPt
      rw [zjX]
      rcases h with h | ⟨_, h | h⟩
      · have : ((decide (97 ≤ (l[pos].toNat : Int)) && decide ((l[pos].toNat : Int) ≤ 122)) || (decide (65 ≤ (l[pos].toNat : Int)) && decide ((l[pos].toNat : Int) ≤ 90))) = true := by
          simp only [Bool.or_eq_true, Bool.and_eq_true, decide_eq_true_iff]
          omega
        rw [this]; rfl
      · have : isDg l[pos] = true := by
          unfold isDg
          rw [Bool.and_eq_true, decide_eq_true_iff, decide_eq_true_iff, UInt8.le_iff_toNat_le, UInt8.le_iff_toNat_le]
          exact ⟨by show 48 ≤ _; omega, by show _ ≤ 57; omega⟩
        rw [this, Bool.or_true]; rfl
      · have : l[pos] = 45 := UInt8.toNat_inj.1 (by show _ = 45; omega)
        rw [this]; rfl
    refine ⟨e2, ?_, ?_⟩
    · by_cases h0 : pos = 0
      · subst h0
        have hl : isLt l[0] = true := by
          rw [zjX]
          simp only [Bool.or_eq_true, Bool.and_eq_true, decide_eq_true_iff]
          omega
        cases l with
        | nil => rfl
        | cons a q => exact hl
      · exact hhd (by omega)
    · rw [List.take_succ_eq_append_getElem hp, List.all_append, hall, List.all_cons, hpt]; rfl
  · omega
theorem zoW {l : List UInt8} {pos c wd : Nat} (hp : pos < l.length) (hdec : (l[pos].toNat < 128 ∧ (c, wd) = (l[pos].toNat, 1)) ∨ (128 ≤ l[pos].toNat ∧ 128 ≤ c)) (h : ¬ (LtR c ∨ (pos ≠ 0 ∧ DgR c))) : zeO l = false := by
  unfold LtR DgR at h
  have hlt : isLt l[pos] = false := by
    rw [zjX]
    simp only [Bool.or_eq_false_iff, Bool.and_eq_false_iff, decide_eq_false_iff_not]
    rcases hdec with ⟨h1, e⟩ | ⟨h1, e⟩
    · have e1 : c = l[pos].toNat := congrArg (fun x => x.1) e
      omega
    · omega
  unfold zeO
  by_cases h0 : pos = 0
  · subst h0
    cases l with
    | nil => exact absurd hp (Nat.not_lt_zero _)
    | cons a q =>
      have hlt : isLt a = false := hlt
      show (_ && _ && (isLt a && _)) = false
      rw [hlt, Bool.false_and, Bool.and_false]
  · have hpt : isPt l[pos] = false := by
      unfold isPt
      have hd : isDg l[pos] = false := by
        unfold isDg
        rw [Bool.and_eq_false_iff, decide_eq_false_iff_not, decide_eq_false_iff_not, UInt8.le_iff_toNat_le, UInt8.le_iff_toNat_le]
        show ¬ 48 ≤ _ ∨ ¬ _ ≤ 57
        rcases hdec with ⟨h1, e⟩ | ⟨h1, e⟩
        · have e1 : c = l[pos].toNat := congrArg (fun x => x.1) e
          omega
        · omega
      have h45 : (l[pos] == 45) = false := by
        rw [beq_eq_false_iff_ne]
        intro e2
        have e3 : l[pos].toNat = 45 := by rw [e2]; rfl
        rcases hdec with ⟨h1, e⟩ | ⟨h1, e⟩
        · have e1 : c = l[pos].toNat := congrArg (fun x => x.1) e
          omega
        · omega
      rw [hlt, hd, h45]; rfl
    have : l.all isPt = false := by
      rw [List.all_eq_false]
      exact ⟨l[pos], List.getElem_mem hp, by rw [hpt]; decide⟩
    rw [this, Bool.and_false, Bool.and_false]
set_option maxHeartbeats 2000000 in
theorem zjW (l : List UInt8) (w : World) : Calls Tryz.prog 120 #[.string ⟨l.toArray⟩] w fun e w' => e = .returned (.bool (zeO l)) ∧ ∃ pos, w' = w.iter ⟨l.toArray⟩ pos := by
  go_enter Tryz.func120, Tryz.ntmps120
  go_wp2
  go_loopw [] (fun w' => ∃ (pos : Nat), w' = w.iter ⟨l.toArray⟩ pos ∧ pos ≤ l.length ∧ (0 < pos -> l.head?.all isLt = true) ∧ (l.take pos).all isPt = true) (fun w' => l.length - w'.iterPos w.heap.size)
  case atStart => exact ⟨0, rfl, Nat.zero_le _, fun h => absurd h (by decide), rfl⟩
  case round =>
    obtain ⟨pos, rfl, hpos, hhd, hall⟩ := hrel
    have hsz : (⟨l.toArray⟩ : ByteArray).size = l.length := by simp [ByteArray.size]
    by_cases hp : pos < (⟨l.toArray⟩ : ByteArray).size
    · have hnx : ∀ ty, (Instr.next (.pointer (some ⟨w.heap.size, 0, none⟩)) true ty).run Tryz.prog (w.iter ⟨l.toArray⟩ pos) = _ := fun ty => run_next_any w _ pos ty hp
      have hwd := zmb _ pos hp
      have hlo : l[pos]'(by omega) = (⟨l.toArray⟩ : ByteArray)[pos]'hp := rfl
      have hdec : ((l[pos]'(by omega)).toNat < 128 ∧ Utf8.decode ⟨l.toArray⟩ pos = ((l[pos]'(by omega)).toNat, 1)) ∨ (128 ≤ (l[pos]'(by omega)).toNat ∧ 128 ≤ (Utf8.decode ⟨l.toArray⟩ pos).1) := by
        by_cases ha : (l[pos]'(by omega)).toNat < 128
        · exact .inl ⟨ha, decode_ascii _ pos hp ha⟩
        · exact .inr ⟨by omega, (decode_high _ pos hp (by rw [<- hlo]; omega)).1⟩
      generalize Utf8.decode ⟨l.toArray⟩ pos = dc at hnx hwd hdec
      obtain ⟨c, wd⟩ := dc
      simp only [] at hnx hwd hdec
      generalize hci : ((c : Nat) : Int) = ci at hnx
      have hlen : pos < l.length := by omega
      have hgood := zm6 hlen hdec hhd hall
      have hbad := zoW hlen hdec
      rw [hci] at hgood hbad
      by_cases hcase : LtR ci ∨ (pos ≠ 0 ∧ DgR ci)
      · obtain ⟨e1, e2, e3⟩ := hgood hcase
        clear hgood hbad hdec hlo
        unfold LtR DgR at hcase
        go_wp2
        all_goals (first
          | (exfalso
             clear hnx
             simp only [Bool.not_eq_true', Bool.not_eq_false', decide_eq_false_iff_not, decide_eq_true_eq, beq_iff_eq, beq_eq_false_iff_ne] at *
             omega)
          | (go_roundw
             case rel => exact ⟨pos + 1, by simp [*], by omega, fun _ => e2, e3⟩
             case measure => (simp [*]; omega)))
      · have hnf := hbad hcase
        clear hgood hbad hdec hlo
        unfold LtR DgR at hcase
        go_wp2
        all_goals (first
          | (exfalso
             clear hnx
             simp only [Bool.not_eq_true', Bool.not_eq_false', decide_eq_false_iff_not, decide_eq_true_eq, beq_iff_eq, beq_eq_false_iff_ne] at *
             omega)
          | (go_ret
             refine ⟨?_, _, rfl⟩
             first | rfl | (rw [hnf]; rfl) | (simp [*]; done)))
    · have hnx : ∀ ty, (Instr.next (.pointer (some ⟨w.heap.size, 0, none⟩)) true ty).run Tryz.prog (w.iter ⟨l.toArray⟩ pos) = _ := fun ty => run_next_end w _ pos ty hp
      have hend : zeO l = (decide (l ≠ []) && decide (l.length ≤ 32)) := by
        have hpl : pos = l.length := by omega
        subst hpl
        rw [List.take_length] at hall
        have hh : l.head?.all isLt = true := by
          cases l with
          | nil => rfl
          | cons a q => exact hhd (Nat.zero_lt_succ _)
        unfold zeO
        rw [hh, hall]
        simp
      go_wp2
      all_goals (
        rename_i hne
        go_ret
        refine ⟨?_, pos, by simp [hne]⟩
        rw [hend]
        first
        | (simp [hne]; done)
        | (cases l with
           | nil => exact absurd rfl hne
           | cons a q => (simp; try omega)))
def cName : Ctr := { args := [.str], pre := fun _ => [], res := .bool, own := none, out := fun x => zeO x.1 }
theorem zm7 : CtrOk Tryz.prog gmH 120 cName := by
  refine ⟨Tryz.call120, fun w O xs vs hO hr hp hG => ?_⟩
  obtain ⟨(l : List UInt8), _⟩ := xs
  obtain ⟨v1, r1, rfl, e1, rfl⟩ := hr
  have e1 : [v1] = [Value.string ⟨l.toArray⟩] ∧ l.length ≤ maxLen := e1
  obtain ⟨e1, _⟩ := e1
  cases e1
  refine (zjW l w).mono ?_
  rintro e w' ⟨rfl, pos, rfl⟩
  exact ⟨_, rfl, zaU w _, fun β => rfl⟩
theorem zii {u : List Int} {B : Int} (h : ∀ k : Nat, 0 ≤ u.getD k 0 ∧ u.getD k 0 ≤ B) (j : Int) : ∀ k : Nat, 0 ≤ (bump u j).getD k 0 ∧ (bump u j).getD k 0 ≤ B + 1 := fun k => by
  unfold bump
  rw [List.getD_eq_getElem?_getD, List.getElem?_set]
  have h1 := h k
  have h2 := h j.toNat
  rw [List.getD_eq_getElem?_getD] at h1
  split
  · split
    · show 0 ≤ u.getD j.toNat 0 + 1 ∧ u.getD j.toNat 0 + 1 ≤ B + 1
      omega
    · show (0 : Int) ≤ 0 ∧ (0 : Int) ≤ B + 1
      omega
  · omega
theorem zmd {u : List Int} {n : Nd} {B : Int} (h : ∀ k : Nat, 0 ≤ u.getD k 0 ∧ u.getD k 0 ≤ B) (k : Nat) : 0 ≤ (zcn u n).getD k 0 ∧ (zcn u n).getD k 0 ≤ B + 2 := by
  unfold zcn
  cases decide (1 < opsN n) with
  | true =>
    have := zii (zii h (ndL n)) (ndR n) k
    rw [cond_true]
    omega
  | false =>
    cases decide (0 < opsN n) with
    | true =>
      have := zii h (ndL n) k
      rw [cond_false, cond_true]
      omega
    | false =>
      have := h k
      rw [cond_false, cond_false]
      omega
theorem zkv (r : List Nd) : ∀ (i : Nat), i ≤ r.length -> ∀ k : Nat, 0 ≤ (zbY r i).getD k 0 ∧ (zbY r i).getD k 0 ≤ 2 * (i : Int)
  | 0, _, k => by rw [zjH]; omega
  | i + 1, hi, k => by
    rw [zcp (by omega)]
    have := zmd (n := zas r i) (zkv r i (by omega)) k
    omega
def zcm (u : List Int) (n : Nd) : Nat -> List Int
  | 0 => u
  | 1 => if 0 < opsN n then bump u (ndL n) else u
  | _ => zcn u n
def opdJ (n : Nd) (i : Int) : Nat -> Bool
  | 0 => true
  | 1 => (bif decide (0 < opsN n) then inB (ndL n) 0 (i - 1) else (ndL n == 0) || (ndK n == 7))
  | _ => zem n i
theorem zme {u : List Int} {n : Nd} {B : Int} (h : ∀ k : Nat, 0 ≤ u.getD k 0 ∧ u.getD k 0 ≤ B) (k : Nat) : 0 ≤ (zcm u n 1).getD k 0 ∧ (zcm u n 1).getD k 0 ≤ B + 1 := by
  show 0 ≤ (if 0 < opsN n then bump u (ndL n) else u).getD k 0 ∧ (if 0 < opsN n then bump u (ndL n) else u).getD k 0 ≤ B + 1
  by_cases e : 0 < opsN n
  · rw [if_pos e]; exact zii h _ k
  · rw [if_neg e]
    have := h k
    omega
theorem zln (u : List Int) (n : Nd) : (zcm u n 1).length = u.length := by
  show (if 0 < opsN n then bump u (ndL n) else u).length = u.length
  by_cases e : 0 < opsN n
  · rw [if_pos e]; exact zdv _ _
  · rw [if_neg e]
def cWf : Ctr := { args := [.slice nd], pre := fun _ => [], res := .bool, own := none, out := fun x => wfS x.1 }
def kWf : Kn := { gmK with C := [(119, zbd), (74, zkk), (120, cName), (121, zn4), (122, cNumb), (123, cAnyU)] }
theorem zaE : KnOk Tryz.prog gmH kWf := zaj.with (.cons ziv <| .cons ziH <| .cons zm7 <| .cons znd <| .cons zqw <| .cons zry .nil)
theorem zks {r : List Nd} {i : Nat} (hi : i < r.length) (h : zfK (zas r i) (i : Int) = false) : wfS r = false := by
  have : zcF r r.length = false := by
    rw [Bool.eq_false_iff]
    intro e
    have := zep.1 e i hi
    rw [<- zlS, h] at this
    cases this
  unfold wfS
  rw [this, Bool.and_false, Bool.false_and]
theorem zix {r : List Nd} {i : Nat} (hi : i < r.length) (h : zbA (zas r i) = false) : wfS r = false := zks hi (by unfold zfK; rw [h]; rfl)
theorem ziw {r : List Nd} {i : Nat} (hi : i < r.length) (h : zem (zas r i) (i : Int) = false) : wfS r = false := zks hi (by unfold zfK; rw [h, Bool.and_false])
theorem zqp {k : Int} (h : 1 ≤ k ∧ k ≤ 18) : (zdc k).1 = 0 ∨ (zdc k).1 = 1 ∨ (zdc k).1 = 2 := by
  rcases (show k = 1 ∨ k = 2 ∨ k = 3 ∨ k = 4 ∨ k = 5 ∨ k = 6 ∨ k = 7 ∨ k = 8 ∨ k = 9 ∨ k = 10 ∨ k = 11 ∨ k = 12 ∨ k = 13 ∨ k = 14 ∨ k = 15 ∨ k = 16 ∨ k = 17 ∨ k = 18 by omega) with rfl | rfl | rfl | rfl | rfl | rfl | rfl | rfl | rfl | rfl | rfl | rfl | rfl | rfl | rfl | rfl | rfl | rfl <;> decide
theorem zku {u : List Int} {n : Nd} (h : opsN n = 0 ∨ opsN n = 1 ∨ opsN n = 2) : (if 1 < opsN n then bump (zcm u n 1) (ndR n) else zcm u n 1) = zcm u n 2 := by
  show _ = zcn u n
  unfold zcn zcm
  rcases h with h | h | h <;> rw [h] <;> rfl
theorem bufI {te : TypeId} {x y : List Int} (h : x = y) : some (OObj.buf te i64 x) = some (OObj.buf te i64 y) := by rw [h]
set_option maxHeartbeats 1000000 in
theorem wf_ok : CtrOk Tryz.prog gmH 72 cWf := by
  refine zaq (K := kWf) zaE Tryz.func72 rfl rfl Tryz.call72 rfl (by decide) (by intro h; cases h) ?_
  rintro w0 X hX ⟨(r : List Nd), _⟩ hp
  change AWP _ _ _ _ _ ⟨[(0, ⟨.slice nd, r⟩)], [], 0⟩ _
  refine AWP.len 0 rfl fun hl => ?_
  unfold maxLen at hl
  (repeat (first | refine zae ?_ | refine zac ?_ | refine zab ?_ | refine zad ?_)); refine zaa hX zaE rfl ?_ ?_
  · trivial
  (repeat (first | refine zae ?_ | refine zac ?_ | refine zab ?_ | refine zad ?_)); refine zaa hX zaE rfl ?_ ?_
  · repeat' (first | exact trivial | assumption | (refine ⟨?_, ?_⟩) | (intro _) | exact Nat.le_of_ble_eq_true rfl | exact Int.natCast_nonneg _ | (simp_all [allP]; done))
  refine zai rfl (fun hb => ?_) (fun hb => ?_)
  · have hb : (bif decide (((r.length : Nat) : Int) < 1) then true else decide (((r.length : Nat) : Int) > 64)) = true := hb
    rw [b_or, Bool.or_eq_true, decide_eq_true_iff, decide_eq_true_iff] at hb
    (repeat (first | refine zae ?_ | refine zac ?_ | refine zak ?_ | refine zad ?_ | refine zab ?_ | refine zaa hX zaE rfl trivial ?_ | refine zaa hX zaE rfl id ?_ | refine zaa hX zaE rfl ⟨id, id⟩ ?_))
    refine AWP.ret ⟨.inr rfl, zay rfl trivial rfl rfl ?_⟩
    show false = wfS r
    unfold wfS
    rcases hb with hb | hb
    · rw [decide_eq_false (by omega : ¬ 1 ≤ r.length)]; rfl
    · rw [decide_eq_false (by omega : ¬ r.length ≤ 64), Bool.and_false, Bool.false_and, Bool.false_and]
  have hb : (bif decide (((r.length : Nat) : Int) < 1) then true else decide (((r.length : Nat) : Int) > 64)) = false := hb
  rw [b_or, Bool.or_eq_false_iff, decide_eq_false_iff_not, decide_eq_false_iff_not] at hb
  obtain ⟨hb1, hb2⟩ := hb
  refine zac ?_
  (repeat (first | refine zae ?_ | refine zac ?_ | refine zab ?_ | refine zad ?_)); refine zaa hX zaE rfl ?_ ?_
  · trivial
  have m0 : (0 : Int) ≤ ((r.length : Nat) : Int) := by omega
  have m1 : ((r.length : Nat) : Int) ≤ 1000000000 := by omega
  (repeat (first | refine zae ?_ | refine zac ?_ | refine zab ?_ | refine zad ?_)); refine zaa hX zaE rfl ?_ ?_
  · exact ⟨m0, Int.le_refl _, m1⟩
  (repeat (first | refine zae ?_ | refine zac ?_ | refine zab ?_ | refine zad ?_)); refine zaa hX zaE rfl ?_ ?_
  · trivial
  (repeat (first | refine zae ?_ | refine zac ?_ | refine zab ?_ | refine zad ?_));
  refine AWP.loop (ι := Nat) (fun i => ⟨[(0, ⟨.slice nd, r⟩), (3, ⟨.optr (.arr 19 shp), ⟨0, .arr 19 shp, .here⟩⟩), (4, ⟨.obuf i64, (1 : Nat)⟩), (24, ⟨.slice nd, r⟩), (25, ⟨i64, ((r.length : Nat) : Int)⟩), (26, ⟨i64, (i : Int)⟩)], [(0, some (.box (.arr 19 shp) zcs)), (1, some (.buf 3 i64 (zbY r i)))], 2⟩) (fun i => i ≤ r.length ∧ zcF r i = true) (fun i => r.length - i) 0 ⟨Nat.zero_le _, rfl⟩ ⟨⟨rfl, rfl, rfl, rfl, rfl, rfl, trivial⟩, ⟨rfl, bufI (by show List.replicate (((r.length : Nat) : Int)).toNat (0 : Int) = _; rw [Int.toNat_natCast]; rfl), trivial⟩, rfl, rfl⟩ ?_
  rintro i ⟨hi, hn⟩
  (repeat (first | refine zae ?_ | refine zac ?_ | refine zab ?_ | refine zad ?_)); refine zaa hX zaE rfl ?_ ?_
  · trivial
  refine zae ?_
  refine zai rfl (fun hb => ?_) (fun hb => ?_)
  · have hb : decide ((i : Int) < (r.length : Nat)) = true := hb
    have hb := of_decide_eq_true hb
    have hlt : i < r.length := by omega
    have n0 : (0 : Int) ≤ (i : Int) := by omega
    have hbd := zkv r i hi
    have hul := zcy r i
    have hus := zcp hlt
    have hno : zcF r (i + 1) = (zcF r i && zfK (zas r i) (i : Int)) := rfl
    have hff := zix hlt
    have hfo := ziw hlt
    rw [hn, Bool.true_and] at hno
    (repeat (first | refine zae ?_ | refine zac ?_ | refine zab ?_ | refine zad ?_)); refine zaa hX zaE rfl ?_ ?_
    · exact ⟨n0, hb⟩
    refine zan (σ' := ⟨[(0, ⟨.slice nd, r⟩), (3, ⟨.optr (.arr 19 shp), ⟨0, .arr 19 shp, .here⟩⟩), (4, ⟨.obuf i64, (1 : Nat)⟩), (24, ⟨.slice nd, r⟩), (25, ⟨i64, ((r.length : Nat) : Int)⟩), (26, ⟨i64, (i : Int)⟩), (5, ⟨i64, (i : Int)⟩), (6, ⟨.optr nd, ⟨2, nd, .here⟩⟩)], [(0, some (.box (.arr 19 shp) zcs)), (1, some (.buf 3 i64 (zbY r i))), (2, some (.box nd (zas r i)))], 3⟩) ⟨⟨rfl, rfl, rfl, rfl, rfl, rfl, rfl, rfl, trivial⟩, ⟨rfl, rfl, rfl, trivial⟩, rfl, rfl⟩ ?_
    generalize hnd : zas r i = n at *
    generalize zbY r i = u at *
    (repeat (first | refine zae ?_ | refine zac ?_ | refine zab ?_ | refine zad ?_)); refine zaa hX zaE rfl ?_ ?_
    · repeat' (first | exact trivial | assumption | (refine ⟨?_, ?_⟩) | (intro _) | exact Nat.le_of_ble_eq_true rfl | exact Int.natCast_nonneg _ | (simp_all [allP]; done))
    have hk18 : (bif !inB (ndK n) 1 18 then true else decide (((ndI n).length : Int) > 64)) = !(inB (ndK n) 1 18 && decide ((ndI n).length ≤ 64)) := by
      have : decide (((ndI n).length : Int) > 64) = !decide ((ndI n).length ≤ 64) := by
        rw [<- decide_not, decide_eq_decide]; omega
      rw [this]
      cases inB (ndK n) 1 18 <;> cases decide ((ndI n).length ≤ 64) <;> rfl
    refine zai rfl (fun hc => ?_) (fun hc => ?_)
    · have hc := hk18.symm.trans hc
      rw [Bool.not_eq_true'] at hc
      (repeat (first | refine zae ?_ | refine zac ?_ | refine zak ?_ | refine zad ?_ | refine zab ?_ | refine zaa hX zaE rfl trivial ?_ | refine zaa hX zaE rfl id ?_ | refine zaa hX zaE rfl ⟨id, id⟩ ?_))
      refine AWP.ret ⟨.inr rfl, zay rfl trivial rfl rfl ?_⟩
      show false = wfS r
      rw [hff (by unfold zbA; rw [hc]; rfl)]
    have hc := hk18.symm.trans hc
    rw [Bool.not_eq_false', Bool.and_eq_true, zaJ, decide_eq_true_iff] at hc
    obtain ⟨⟨k1, k2⟩, hl64⟩ := hc
    refine zac ?_
    have t0 : (0 : Int) ≤ ndK n := by omega
    have t1 : ndK n < ((19 : Nat) : Int) := by omega
    have t2 : (ndK n).toNat < 19 := by omega
    (repeat (first | refine zae ?_ | refine zac ?_ | refine zab ?_ | refine zad ?_)); refine zaa hX zaE rfl ?_ ?_
    · exact ⟨t0, t1, t2⟩
    refine zan (σ' := ⟨[(0, ⟨.slice nd, r⟩), (3, ⟨.optr (.arr 19 shp), ⟨0, .arr 19 shp, .here⟩⟩), (4, ⟨.obuf i64, (1 : Nat)⟩), (24, ⟨.slice nd, r⟩), (25, ⟨i64, ((r.length : Nat) : Int)⟩), (26, ⟨i64, (i : Int)⟩), (5, ⟨i64, (i : Int)⟩), (6, ⟨.optr nd, ⟨2, nd, .here⟩⟩), (7, ⟨.optr shp, ⟨3, shp, .here⟩⟩)], [(0, some (.box (.arr 19 shp) zcs)), (1, some (.buf 3 i64 (u))), (2, some (.box nd n)), (3, some (.box shp (zdc (ndK n))))], 4⟩) ⟨⟨rfl, rfl, rfl, rfl, rfl, rfl, rfl, rfl, rfl, trivial⟩, ⟨rfl, rfl, rfl, rfl, trivial⟩, rfl, rfl⟩ ?_
    have hops := zqp ⟨k1, k2⟩
    (repeat (first | refine zae ?_ | refine zac ?_ | refine zab ?_ | refine zad ?_)); refine zaa hX zaE rfl ?_ ?_
    · trivial
    (repeat (first | refine zae ?_ | refine zac ?_ | refine zab ?_ | refine zad ?_)); refine AWP.frz hX 49 ?_
    refine AWP.loop (ι := Nat) (fun j => ⟨[(0, ⟨.slice nd, r⟩), (3, ⟨.optr (.arr 19 shp), ⟨0, .arr 19 shp, .here⟩⟩), (4, ⟨.obuf i64, (1 : Nat)⟩), (24, ⟨.slice nd, r⟩), (25, ⟨i64, ((r.length : Nat) : Int)⟩), (26, ⟨i64, (i : Int)⟩), (5, ⟨i64, (i : Int)⟩), (6, ⟨.optr nd, ⟨2, nd, .here⟩⟩), (7, ⟨.optr shp, ⟨3, shp, .here⟩⟩), (49, ⟨.slice i64, [ndL n, ndR n]⟩), (50, ⟨i64, (2 : Int)⟩), (51, ⟨i64, (j : Int)⟩)], [(0, some (.box (.arr 19 shp) zcs)), (1, some (.buf 3 i64 (zcm u n j))), (2, some (.box nd n)), (3, some (.box shp (zdc (ndK n))))], 4⟩) (fun j => j ≤ 2 ∧ opdJ n i j = true) (fun j => 2 - j) 0 ⟨by decide, rfl⟩ ⟨⟨rfl, rfl, rfl, rfl, rfl, rfl, rfl, rfl, rfl, rfl, rfl, rfl, trivial⟩, ⟨rfl, rfl, rfl, rfl, trivial⟩, rfl, rfl⟩ ?_
    · rintro j ⟨hj, hjo⟩
      (repeat (first | refine zae ?_ | refine zac ?_ | refine zab ?_ | refine zad ?_)); refine zaa hX zaE rfl ?_ ?_
      · trivial
      refine zae ?_
      refine zai rfl (fun hb => ?_) (fun hb => ?_)
      · have hb : decide ((j : Int) < 2) = true := hb
        have hb := of_decide_eq_true hb
        rcases (show j = 0 ∨ j = 1 by omega) with rfl | rfl
        · have u0 : (0 : Int) ≤ ((0 : Nat) : Int) := by omega
          have u1 : ((0 : Nat) : Int) < (([ndL n, ndR n].length : Nat) : Int) := by show ((0 : Nat) : Int) < ((2 : Nat) : Int); omega
          (repeat (first | refine zae ?_ | refine zac ?_ | refine zab ?_ | refine zad ?_)); refine zaa hX zaE rfl ?_ ?_
          · exact ⟨u0, u1⟩
          refine zab ?_
          (repeat (first | refine zae ?_ | refine zac ?_ | refine zab ?_ | refine zad ?_)); refine zaa hX zaE rfl ?_ ?_
          · trivial
          refine zai rfl (fun hd => ?_) (fun hd => ?_)
          · have hd : decide (((0 : Nat) : Int) < opsN n) = true := hd
            have hd := of_decide_eq_true hd
            have i1 : inR .i64 ((i : Int) - 1) := zat (by omega) (by omega)
            (repeat (first | refine zae ?_ | refine zac ?_ | refine zab ?_ | refine zad ?_)); refine zaa hX zaE rfl ?_ ?_
            · exact i1
            refine zai rfl (fun he => ?_) (fun he => ?_)
            · have he : (!inB (ndL n) 0 ((i : Int) - 1)) = true := he
              rw [Bool.not_eq_true'] at he
              (repeat (first | refine zae ?_ | refine zac ?_ | refine zak ?_ | refine zad ?_ | refine zab ?_ | refine zaa hX zaE rfl trivial ?_ | refine zaa hX zaE rfl id ?_ | refine zaa hX zaE rfl ⟨id, id⟩ ?_))
              refine AWP.ret ⟨.inr rfl, zay rfl trivial rfl rfl ?_⟩
              show false = wfS r
              rw [hfo (by unfold zem; rw [decide_eq_true (show 0 < opsN n from hd), cond_true, he]; rfl)]
            have he : (!inB (ndL n) 0 ((i : Int) - 1)) = false := he
            rw [Bool.not_eq_false', zaJ] at he
            obtain ⟨p0, p1⟩ := he
            have hbj : ∀ k : Nat, 0 ≤ (zcm u n 0).getD k 0 ∧ (zcm u n 0).getD k 0 ≤ 200 := fun k => by
              have := hbd k
              show 0 ≤ u.getD k 0 ∧ u.getD k 0 ≤ 200
              omega
            have hlj : (zcm u n 0).length = r.length := by exact hul
            have hb3 := hbj (ndL n).toNat
            have p2 : ndL n < (((zcm u n 0).length : Nat) : Int) := by rw [hlj]; omega
            have p4 : (ndL n).toNat < (zcm u n 0).length := by rw [hlj]; omega
            have p3 : inR .i64 ((zcm u n 0).getD (ndL n).toNat 0 + 1) := zat (by omega) (by omega)
            refine zac ?_
            (repeat (first | refine zae ?_ | refine zac ?_ | refine zab ?_ | refine zad ?_)); refine zaa hX zaE rfl ?_ ?_
            · repeat' (first | exact trivial | exact p0 | exact p2 | exact p3 | exact p4 | (refine ⟨?_, ?_⟩))
            (repeat (first | refine zae ?_ | refine zac ?_ | refine zab ?_ | refine zad ?_)); refine zaa hX zaE rfl ?_ ?_
            · exact zaT (by omega)
            refine ⟨1, ⟨by omega, ?_⟩, by decide, ⟨rfl, rfl, rfl, rfl, rfl, rfl, rfl, rfl, rfl, rfl, rfl, rfl, trivial⟩, ⟨rfl, bufI ?_, rfl, rfl, trivial⟩, rfl, rfl⟩
            · show (bif decide (0 < opsN n) then inB (ndL n) 0 ((i : Int) - 1) else _) = true
              rw [decide_eq_true (show 0 < opsN n from hd), cond_true, zaJ]
              exact ⟨p0, p1⟩
            · show bump (zcm u n 0) (ndL n) = zcm u n 1
              show _ = if 0 < opsN n then bump u (ndL n) else u
              rw [if_pos (show 0 < opsN n from hd)]
              rfl
          · have hd : decide (((0 : Nat) : Int) < opsN n) = false := hd
            have hd := of_decide_eq_false hd
            (repeat (first | refine zae ?_ | refine zac ?_ | refine zab ?_ | refine zad ?_)); refine zaa hX zaE rfl ?_ ?_
            · repeat' (first | exact trivial | assumption | (refine ⟨?_, ?_⟩) | (intro _) | exact Nat.le_of_ble_eq_true rfl | exact Int.natCast_nonneg _ | (simp_all [allP]; done))
            refine zai rfl (fun he => ?_) (fun he => ?_)
            · have he : (bif (ndL n != 0) then !(bif (((0 : Nat) : Int) == 0) then (ndK n == 7) else false) else false) = true := he
              (repeat (first | refine zae ?_ | refine zac ?_ | refine zak ?_ | refine zad ?_ | refine zab ?_ | refine zaa hX zaE rfl trivial ?_ | refine zaa hX zaE rfl id ?_ | refine zaa hX zaE rfl ⟨id, id⟩ ?_))
              refine AWP.ret ⟨.inr rfl, zay rfl trivial rfl rfl ?_⟩
              show false = wfS r
              refine (hfo ?_).symm
              unfold zem
              rw [decide_eq_false (show ¬ 0 < opsN n from hd), cond_false]
              revert he; unfold bne; cases (ndL n == 0) <;> cases (ndK n == 7) <;> intro he <;> first | rfl | cases he
            have he : (bif (ndL n != 0) then !(bif (((0 : Nat) : Int) == 0) then (ndK n == 7) else false) else false) = false := he
            refine zac ?_
            (repeat (first | refine zae ?_ | refine zac ?_ | refine zab ?_ | refine zad ?_)); refine zaa hX zaE rfl ?_ ?_
            · exact zaT (by omega)
            refine ⟨1, ⟨by omega, ?_⟩, by decide, ⟨rfl, rfl, rfl, rfl, rfl, rfl, rfl, rfl, rfl, rfl, rfl, rfl, trivial⟩, ⟨rfl, bufI ?_, rfl, rfl, trivial⟩, rfl, rfl⟩
            · show (bif decide (0 < opsN n) then _ else (ndL n == 0) || (ndK n == 7)) = true
              rw [decide_eq_false (show ¬ 0 < opsN n from hd), cond_false]
              revert he; unfold bne; cases (ndL n == 0) <;> cases (ndK n == 7) <;> intro he <;> first | rfl | cases he
            · show zcm u n 0 = zcm u n 1
              show u = if 0 < opsN n then bump u (ndL n) else u
              rw [if_neg (show ¬ 0 < opsN n from hd)]
        · have u0 : (0 : Int) ≤ ((1 : Nat) : Int) := by omega
          have u1 : ((1 : Nat) : Int) < (([ndL n, ndR n].length : Nat) : Int) := by show ((1 : Nat) : Int) < ((2 : Nat) : Int); omega
          (repeat (first | refine zae ?_ | refine zac ?_ | refine zab ?_ | refine zad ?_)); refine zaa hX zaE rfl ?_ ?_
          · exact ⟨u0, u1⟩
          refine zab ?_
          (repeat (first | refine zae ?_ | refine zac ?_ | refine zab ?_ | refine zad ?_)); refine zaa hX zaE rfl ?_ ?_
          · trivial
          refine zai rfl (fun hd => ?_) (fun hd => ?_)
          · have hd : decide (((1 : Nat) : Int) < opsN n) = true := hd
            have hd := of_decide_eq_true hd
            have i1 : inR .i64 ((i : Int) - 1) := zat (by omega) (by omega)
            (repeat (first | refine zae ?_ | refine zac ?_ | refine zab ?_ | refine zad ?_)); refine zaa hX zaE rfl ?_ ?_
            · exact i1
            refine zai rfl (fun he => ?_) (fun he => ?_)
            · have he : (!inB (ndR n) 0 ((i : Int) - 1)) = true := he
              rw [Bool.not_eq_true'] at he
              (repeat (first | refine zae ?_ | refine zac ?_ | refine zak ?_ | refine zad ?_ | refine zab ?_ | refine zaa hX zaE rfl trivial ?_ | refine zaa hX zaE rfl id ?_ | refine zaa hX zaE rfl ⟨id, id⟩ ?_))
              refine AWP.ret ⟨.inr rfl, zay rfl trivial rfl rfl ?_⟩
              show false = wfS r
              rw [hfo (by unfold zem; rw [decide_eq_true (show 1 < opsN n from hd), cond_true, he]; rw [Bool.and_false])]
            have he : (!inB (ndR n) 0 ((i : Int) - 1)) = false := he
            rw [Bool.not_eq_false', zaJ] at he
            obtain ⟨p0, p1⟩ := he
            have hbj : ∀ k : Nat, 0 ≤ (zcm u n 1).getD k 0 ∧ (zcm u n 1).getD k 0 ≤ 200 := fun k => by
              have := zme (n := n) hbd k
              omega
            have hlj : (zcm u n 1).length = r.length := by rw [<- hul]; exact zln u n
            have hb3 := hbj (ndR n).toNat
            have p2 : ndR n < (((zcm u n 1).length : Nat) : Int) := by rw [hlj]; omega
            have p4 : (ndR n).toNat < (zcm u n 1).length := by rw [hlj]; omega
            have p3 : inR .i64 ((zcm u n 1).getD (ndR n).toNat 0 + 1) := zat (by omega) (by omega)
            refine zac ?_
            (repeat (first | refine zae ?_ | refine zac ?_ | refine zab ?_ | refine zad ?_)); refine zaa hX zaE rfl ?_ ?_
            · repeat' (first | exact trivial | exact p0 | exact p2 | exact p3 | exact p4 | (refine ⟨?_, ?_⟩))
            (repeat (first | refine zae ?_ | refine zac ?_ | refine zab ?_ | refine zad ?_)); refine zaa hX zaE rfl ?_ ?_
            · exact zaT (by omega)
            refine ⟨2, ⟨by omega, ?_⟩, by decide, ⟨rfl, rfl, rfl, rfl, rfl, rfl, rfl, rfl, rfl, rfl, rfl, rfl, trivial⟩, ⟨rfl, bufI ?_, rfl, rfl, trivial⟩, rfl, rfl⟩
            · show (_ && (bif decide (1 < opsN n) then inB (ndR n) 0 ((i : Int) - 1) else _)) = true
              rw [decide_eq_true (show 1 < opsN n from hd), cond_true, zaJ.2 ⟨p0, p1⟩, Bool.and_true]
              exact hjo
            · show bump (zcm u n 1) (ndR n) = zcm u n 2
              rw [<- zku hops, if_pos (show 1 < opsN n from hd)]
          · have hd : decide (((1 : Nat) : Int) < opsN n) = false := hd
            have hd := of_decide_eq_false hd
            (repeat (first | refine zae ?_ | refine zac ?_ | refine zab ?_ | refine zad ?_)); refine zaa hX zaE rfl ?_ ?_
            · repeat' (first | exact trivial | assumption | (refine ⟨?_, ?_⟩) | (intro _) | exact Nat.le_of_ble_eq_true rfl | exact Int.natCast_nonneg _ | (simp_all [allP]; done))
            refine zai rfl (fun he => ?_) (fun he => ?_)
            · have he : (bif (ndR n != 0) then !(bif (((1 : Nat) : Int) == 0) then (ndK n == 7) else false) else false) = true := he
              (repeat (first | refine zae ?_ | refine zac ?_ | refine zak ?_ | refine zad ?_ | refine zab ?_ | refine zaa hX zaE rfl trivial ?_ | refine zaa hX zaE rfl id ?_ | refine zaa hX zaE rfl ⟨id, id⟩ ?_))
              refine AWP.ret ⟨.inr rfl, zay rfl trivial rfl rfl ?_⟩
              show false = wfS r
              refine (hfo ?_).symm
              unfold zem
              rw [decide_eq_false (show ¬ 1 < opsN n from hd), cond_false]
              revert he; unfold bne; cases (ndR n == 0) <;> intro he <;> first | (rw [Bool.and_false]) | cases he
            have he : (bif (ndR n != 0) then !(bif (((1 : Nat) : Int) == 0) then (ndK n == 7) else false) else false) = false := he
            refine zac ?_
            (repeat (first | refine zae ?_ | refine zac ?_ | refine zab ?_ | refine zad ?_)); refine zaa hX zaE rfl ?_ ?_
            · exact zaT (by omega)
            refine ⟨2, ⟨by omega, ?_⟩, by decide, ⟨rfl, rfl, rfl, rfl, rfl, rfl, rfl, rfl, rfl, rfl, rfl, rfl, trivial⟩, ⟨rfl, bufI ?_, rfl, rfl, trivial⟩, rfl, rfl⟩
            · show (_ && (bif decide (1 < opsN n) then _ else ndR n == 0)) = true
              rw [decide_eq_false (show ¬ 1 < opsN n from hd), cond_false]
              have h2 : (ndR n == 0) = true := by revert he; unfold bne; cases (ndR n == 0) <;> intro he <;> first | rfl | cases he
              rw [h2, Bool.and_true]
              exact hjo
            · show zcm u n 1 = zcm u n 2
              rw [<- zku hops, if_neg (show ¬ 1 < opsN n from hd)]
      · have hb : decide ((j : Int) < 2) = false := hb
        have hb := of_decide_eq_false hb
        obtain rfl : j = 2 := by omega
        have hopd : zem n (i : Int) = true := hjo
        refine zad ?_
        refine zan (σ' := ⟨[(0, ⟨.slice nd, r⟩), (3, ⟨.optr (.arr 19 shp), ⟨0, .arr 19 shp, .here⟩⟩), (4, ⟨.obuf i64, (1 : Nat)⟩), (24, ⟨.slice nd, r⟩), (25, ⟨i64, ((r.length : Nat) : Int)⟩), (26, ⟨i64, (i : Int)⟩), (5, ⟨i64, (i : Int)⟩), (6, ⟨.optr nd, ⟨2, nd, .here⟩⟩), (7, ⟨.optr shp, ⟨3, shp, .here⟩⟩)], [(0, some (.box (.arr 19 shp) zcs)), (1, some (.buf 3 i64 (zcn u n))), (2, some (.box nd n)), (3, some (.box shp (zdc (ndK n))))], 4⟩) ⟨⟨rfl, rfl, rfl, rfl, rfl, rfl, rfl, rfl, rfl, trivial⟩, ⟨rfl, rfl, rfl, rfl, trivial⟩, rfl, rfl⟩ ?_
        clear hbd hul
        have hub : u.length = u.length := rfl
        generalize zcn u n = u' at hus
        (repeat (first | refine zae ?_ | refine zac ?_ | refine zab ?_ | refine zad ?_)); refine AWP.orders (σ' := ⟨[(0, ⟨.slice nd, r⟩), (3, ⟨.optr (.arr 19 shp), ⟨0, .arr 19 shp, .here⟩⟩), (4, ⟨.obuf i64, (1 : Nat)⟩), (24, ⟨.slice nd, r⟩), (25, ⟨i64, ((r.length : Nat) : Int)⟩), (26, ⟨i64, (i : Int)⟩), (5, ⟨i64, (i : Int)⟩), (6, ⟨.optr nd, ⟨2, nd, .here⟩⟩), (7, ⟨.optr shp, ⟨3, shp, .here⟩⟩), (10, ⟨.bool, ndC n == 0⟩), (11, ⟨.bool, decide (ndS n = [])⟩)], [(0, some (.box (.arr 19 shp) zcs)), (1, some (.buf 3 i64 (u'))), (2, some (.box nd n)), (3, some (.box shp (zdc (ndK n))))], 4⟩) dM hX zaE 8 rfl (by kernel_rfl) [[0, 1, 2, 3, 4, 5, 6, 7], [0, 1, 2, 3, 4, 6, 5, 7], [0, 1, 2, 3, 6, 4, 5, 7], [0, 1, 2, 6, 3, 4, 5, 7], [0, 1, 3, 2, 4, 5, 6, 7], [0, 1, 3, 2, 4, 6, 5, 7], [0, 1, 3, 2, 6, 4, 5, 7], [0, 1, 3, 4, 2, 5, 6, 7], [0, 1, 3, 4, 2, 6, 5, 7], [0, 1, 3, 4, 5, 2, 6, 7], [0, 3, 1, 2, 4, 5, 6, 7], [0, 3, 1, 2, 4, 6, 5, 7], [0, 3, 1, 2, 6, 4, 5, 7], [0, 3, 1, 4, 2, 5, 6, 7], [0, 3, 1, 4, 2, 6, 5, 7], [0, 3, 1, 4, 5, 2, 6, 7], [0, 3, 4, 1, 2, 5, 6, 7], [0, 3, 4, 1, 2, 6, 5, 7], [0, 3, 4, 1, 5, 2, 6, 7], [0, 3, 4, 5, 1, 2, 6, 7], [3, 0, 1, 2, 4, 5, 6, 7], [3, 0, 1, 2, 4, 6, 5, 7], [3, 0, 1, 2, 6, 4, 5, 7], [3, 0, 1, 4, 2, 5, 6, 7], [3, 0, 1, 4, 2, 6, 5, 7], [3, 0, 1, 4, 5, 2, 6, 7], [3, 0, 4, 1, 2, 5, 6, 7], [3, 0, 4, 1, 2, 6, 5, 7], [3, 0, 4, 1, 5, 2, 6, 7], [3, 0, 4, 5, 1, 2, 6, 7], [3, 4, 0, 1, 2, 5, 6, 7], [3, 4, 0, 1, 2, 6, 5, 7], [3, 4, 0, 1, 5, 2, 6, 7], [3, 4, 0, 5, 1, 2, 6, 7], [3, 4, 5, 0, 1, 2, 6, 7]] (by kernel_rfl) ?_ ?_
        · repeat' (first | exact AllL.nil | refine AllL.cons (LinOk.mk rfl ?_ ⟨⟨rfl, rfl, rfl, rfl, rfl, rfl, rfl, rfl, rfl, rfl, zcS zdk, trivial⟩, ⟨rfl, rfl, rfl, rfl, trivial⟩, rfl, rfl⟩) ?_)
          all_goals trivial
        (repeat (first | refine zae ?_ | refine zac ?_ | refine zab ?_ | refine zad ?_)); refine zaa hX zaE rfl ?_ ?_
        · trivial
        refine AWP.viaQ (σ' := ⟨[(0, ⟨.slice nd, r⟩), (3, ⟨.optr (.arr 19 shp), ⟨0, .arr 19 shp, .here⟩⟩), (4, ⟨.obuf i64, (1 : Nat)⟩), (24, ⟨.slice nd, r⟩), (25, ⟨i64, ((r.length : Nat) : Int)⟩), (26, ⟨i64, (i : Int)⟩), (5, ⟨i64, (i : Int)⟩), (6, ⟨.optr nd, ⟨2, nd, .here⟩⟩), (7, ⟨.optr shp, ⟨3, shp, .here⟩⟩), (10, ⟨.bool, zeg n⟩), (11, ⟨.bool, decide (ndS n = [])⟩)], [(0, some (.box (.arr 19 shp) zcs)), (1, some (.buf 3 i64 (u'))), (2, some (.box nd n)), (3, some (.box shp (zdc (ndK n))))], 4⟩) ?_ ?_
        · refine zai rfl (fun hd => ?_) (fun hd => ?_)
          · have hd : (zdc (ndK n)).2.1 = true := hd
            (repeat (first | refine zae ?_ | refine zac ?_ | refine zab ?_ | refine zad ?_)); refine zaa hX zaE rfl ?_ ?_
            · trivial
            refine ⟨⟨rfl, rfl, rfl, rfl, rfl, rfl, rfl, rfl, rfl, zcS ?_, rfl, trivial⟩, ⟨rfl, rfl, rfl, rfl, trivial⟩, rfl, rfl⟩
            unfold zeg
            rw [hd]
            rfl
          · have hd : (zdc (ndK n)).2.1 = false := hd
            refine zac ?_
            refine ⟨⟨rfl, rfl, rfl, rfl, rfl, rfl, rfl, rfl, rfl, zcS ?_, rfl, trivial⟩, ⟨rfl, rfl, rfl, rfl, trivial⟩, rfl, rfl⟩
            unfold zeg
            rw [hd]
            rfl
        (repeat (first | refine zae ?_ | refine zac ?_ | refine zab ?_ | refine zad ?_)); refine zaa hX zaE rfl ?_ ?_
        · trivial
        refine AWP.viaQ (σ' := ⟨[(0, ⟨.slice nd, r⟩), (3, ⟨.optr (.arr 19 shp), ⟨0, .arr 19 shp, .here⟩⟩), (4, ⟨.obuf i64, (1 : Nat)⟩), (24, ⟨.slice nd, r⟩), (25, ⟨i64, ((r.length : Nat) : Int)⟩), (26, ⟨i64, (i : Int)⟩), (5, ⟨i64, (i : Int)⟩), (6, ⟨.optr nd, ⟨2, nd, .here⟩⟩), (7, ⟨.optr shp, ⟨3, shp, .here⟩⟩), (10, ⟨.bool, zeg n⟩), (11, ⟨.bool, zh0 n⟩)], [(0, some (.box (.arr 19 shp) zcs)), (1, some (.buf 3 i64 (u'))), (2, some (.box nd n)), (3, some (.box shp (zdc (ndK n))))], 4⟩) ?_ ?_
        · refine zai rfl (fun hd => ?_) (fun hd => ?_)
          · have hd : (ndK n == 18) = true := hd
            (repeat (first | refine zae ?_ | refine zac ?_ | refine zab ?_ | refine zad ?_)); refine zaa hX zaE rfl ?_ ?_
            · trivial
            refine ⟨⟨rfl, rfl, rfl, rfl, rfl, rfl, rfl, rfl, rfl, rfl, zcS ?_, trivial⟩, ⟨rfl, rfl, rfl, rfl, trivial⟩, rfl, rfl⟩
            unfold zh0
            rw [hd]
            rfl
          · have hd : (ndK n == 18) = false := hd
            refine zac ?_
            refine ⟨⟨rfl, rfl, rfl, rfl, rfl, rfl, rfl, rfl, rfl, rfl, zcS ?_, trivial⟩, ⟨rfl, rfl, rfl, rfl, trivial⟩, rfl, rfl⟩
            unfold zh0
            rw [hd]
            rfl
        have hfd : zbA n = (zeg n && (zh0 n && (za3 (ndI n) (zdc (ndK n)).2.2.1 && zcE n))) := by
          unfold zbA
          rw [zaJ.2 ⟨k1, k2⟩, decide_eq_true hl64]
          rfl
        (repeat (first | refine zae ?_ | refine zac ?_ | refine zab ?_ | refine zad ?_)); refine zaa hX zaE rfl ?_ ?_
        · repeat' (first | exact trivial | assumption | (refine ⟨?_, ?_⟩) | (intro _) | exact Nat.le_of_ble_eq_true rfl | exact Int.natCast_nonneg _ | (simp_all [allP]; done))
        have ht : (bif (bif (bif !zeg n then true else !zh0 n) then true else !za3 (ndI n) (zdc (ndK n)).2.2.1) then true else !zcE n) = !zbA n := by
          rw [hfd]
          cases zeg n <;> cases zh0 n <;> cases za3 (ndI n) (zdc (ndK n)).2.2.1 <;> cases zcE n <;> rfl
        refine zai rfl (fun hd => ?_) (fun hd => ?_)
        · have hd := ht.symm.trans hd
          rw [Bool.not_eq_true'] at hd
          (repeat (first | refine zae ?_ | refine zac ?_ | refine zak ?_ | refine zad ?_ | refine zab ?_ | refine zaa hX zaE rfl trivial ?_ | refine zaa hX zaE rfl id ?_ | refine zaa hX zaE rfl ⟨id, id⟩ ?_))
          refine AWP.ret ⟨.inr rfl, zay rfl trivial rfl rfl ?_⟩
          show false = wfS r
          rw [hff hd]
        · have hd := ht.symm.trans hd
          rw [Bool.not_eq_false'] at hd
          refine zac ?_
          (repeat (first | refine zae ?_ | refine zac ?_ | refine zab ?_ | refine zad ?_)); refine zaa hX zaE rfl ?_ ?_
          · exact zaT (by omega)
          refine ⟨i + 1, ⟨hlt, ?_⟩, by omega, ⟨rfl, rfl, rfl, rfl, rfl, zdA _, trivial⟩, ⟨rfl, bufI hus.symm, trivial⟩, rfl, rfl⟩
          rw [hno]
          unfold zfK
          rw [hd, hopd]
          rfl
  · have hb : decide ((i : Int) < (r.length : Nat)) = false := hb
    have hb := of_decide_eq_false hb
    obtain rfl : i = r.length := by omega
    have hul := zcy r r.length
    refine zad ?_
    refine AWP.frz hX 4 ?_
    have i1 : inR .i64 (((r.length : Nat) : Int) - 1) := zat (by omega) (by omega)
    have i2 : (0 : Int) ≤ ((r.length : Nat) : Int) - 1 := by omega
    have i3 : ((r.length : Nat) : Int) - 1 ≤ (((zbY r r.length).length : Nat) : Int) := by omega
    (repeat (first | refine zae ?_ | refine zac ?_ | refine zab ?_ | refine zad ?_)); refine zaa hX zaE rfl ?_ ?_
    · first | exact ⟨i1, i2, i3, rfl⟩ | (repeat' (first | exact trivial | exact i1 | exact i2 | exact i3 | rfl | (refine ⟨?_, ?_⟩)))
    refine AWP.ret ⟨.inr rfl, zay rfl trivial rfl rfl ?_⟩
    show (!((zbY r r.length).take (((r.length : Nat) : Int) - 1).toNat).any not1) = wfS r
    unfold wfS
    rw [decide_eq_true (by omega), decide_eq_true (by omega), hn, show (((r.length : Nat) : Int) - 1).toNat = r.length - 1 by omega]
    rfl
abbrev Cal := Int × List Int × Int × List Lr × Unit
def zjt (c : Cal) : Prop := (0 ≤ c.1 ∧ c.1 ≤ 1048576) ∧ (1 ≤ c.2.1.length ∧ c.2.1.length ≤ 16) ∧ (-1 ≤ c.2.2.1 ∧ c.2.2.1 < (c.2.1.length : Int)) ∧ c.2.2.2.1.length ≤ 16 ∧ (c.2.2.1 = -1 -> c.2.2.2.1 = []) ∧ (∀ m ∈ c.2.1, 1 ≤ m ∧ m ≤ 40) ∧ (perS 1 c.2.2.2.1).2 = true
def cCalV : Ctr := { args := [cal], pre := fun x => [zjt x.1], res := .bool, own := none, out := fun _ => true }
def kCv : Kn := { gmK with C := [(125, cPer)] }
theorem zcW : KnOk Tryz.prog gmH kCv := zaj.with (.cons zm1 .nil)
theorem zor {a b : Bool} (ha : a = false) (hb : b = false) : (bif a then true else b) = false := by rw [ha, hb]; rfl
theorem zrl : CtrOk Tryz.prog gmH 73 cCalV := by
  refine zaq (K := kCv) zcW Tryz.func73 rfl rfl Tryz.call73 rfl (by decide) (by intro h; cases h) ?_
  rintro w0 X hX ⟨(c : Cal), _⟩ hp
  obtain ⟨(ep : Int), (ms : List Int), (lp : Int), (rs : List Lr), ⟨⟩⟩ := c
  obtain ⟨⟨e0, e1⟩, ⟨n0, n1⟩, ⟨l0, l1⟩, r0, lr, hm, hper⟩ : zjt (ep, ms, lp, rs, ()) := hp
  have e0 : 0 ≤ ep := e0
  have e1 : ep ≤ 1048576 := e1
  have n0 : 1 ≤ ms.length := n0
  have n1 : ms.length ≤ 16 := n1
  have l0 : -1 ≤ lp := l0
  have l1 : lp < (ms.length : Int) := l1
  have r0 : rs.length ≤ 16 := r0
  have lr : lp = -1 -> rs = [] := lr
  have hm : ∀ m ∈ ms, 1 ≤ m ∧ m ≤ 40 := hm
  have hper : (perS 1 rs).2 = true := hper
  change AWP _ _ _ _ _ ⟨[(0, ⟨cal, (ep, ms, lp, rs, ())⟩)], [], 0⟩ _
  (repeat (first | refine zae ?_ | refine zac ?_ | refine zab ?_ | refine zad ?_)); refine zaa hX zcW rfl ?_ ?_
  · trivial
  (repeat (first | refine zae ?_ | refine zac ?_ | refine zab ?_ | refine zad ?_)); refine zaa hX zcW rfl ?_ ?_
  · trivial
  refine zan (σ' := ⟨[(1, ⟨.optr cal, ⟨0, cal, .here⟩⟩), (3, ⟨i64, ((ms.length : Nat) : Int)⟩)], [(0, some (.box cal (ep, ms, lp, rs, ())))], 1⟩) ⟨⟨rfl, rfl, trivial⟩, ⟨rfl, trivial⟩, rfl, rfl⟩ ?_
  (repeat (first | refine zae ?_ | refine zac ?_ | refine zab ?_ | refine zad ?_)); refine zaa hX zcW rfl ?_ ?_
  · repeat' (first | exact trivial | assumption | (refine ⟨?_, ?_⟩) | (intro _) | exact Nat.le_of_ble_eq_true rfl | exact Int.natCast_nonneg _ | (simp_all [allP]; done))
  refine zai rfl (fun hc => ?_) (fun _ => ?_)
  · have hc : (bif decide (ep < 0) then true else decide (ep > 1048576)) = true := hc
    rw [zor (decide_eq_false (by omega)) (decide_eq_false (by omega))] at hc
    cases hc
  (repeat (first | refine zae ?_ | refine zac ?_ | refine zab ?_ | refine zad ?_)); refine zaa hX zcW rfl ?_ ?_
  · repeat' (first | exact trivial | assumption | (refine ⟨?_, ?_⟩) | (intro _) | exact Nat.le_of_ble_eq_true rfl | exact Int.natCast_nonneg _ | (simp_all [allP]; done))
  refine zai rfl (fun hc => ?_) (fun _ => ?_)
  · have hc : (bif decide (((ms.length : Nat) : Int) < 1) then true else decide (((ms.length : Nat) : Int) > 16)) = true := hc
    rw [zor (decide_eq_false (by omega)) (decide_eq_false (by omega))] at hc
    cases hc
  (repeat (first | refine zae ?_ | refine zac ?_ | refine zab ?_ | refine zad ?_)); refine zaa hX zcW rfl ?_ ?_
  · repeat' (first | exact trivial | assumption | (refine ⟨?_, ?_⟩) | (intro _) | exact Nat.le_of_ble_eq_true rfl | exact Int.natCast_nonneg _ | (simp_all [allP]; done))
  refine zai rfl (fun hc => ?_) (fun _ => ?_)
  · have hc : (bif decide (lp < -1) then true else decide (lp ≥ ((ms.length : Nat) : Int))) = true := hc
    rw [zor (decide_eq_false (by omega)) (decide_eq_false (by omega))] at hc
    cases hc
  (repeat (first | refine zae ?_ | refine zac ?_ | refine zab ?_ | refine zad ?_)); refine zaa hX zcW rfl ?_ ?_
  · repeat' (first | exact trivial | assumption | (refine ⟨?_, ?_⟩) | (intro _) | exact Nat.le_of_ble_eq_true rfl | exact Int.natCast_nonneg _ | (simp_all [allP]; done))
  refine zai rfl (fun hc => ?_) (fun _ => ?_)
  · have hc : decide (((rs.length : Nat) : Int) > 16) = true := hc
    have := of_decide_eq_true hc
    omega
  (repeat (first | refine zae ?_ | refine zac ?_ | refine zab ?_ | refine zad ?_)); refine zaa hX zcW rfl ?_ ?_
  · repeat' (first | exact trivial | assumption | (refine ⟨?_, ?_⟩) | (intro _) | exact Nat.le_of_ble_eq_true rfl | exact Int.natCast_nonneg _ | (simp_all [allP]; done))
  refine zai rfl (fun hc => ?_) (fun _ => ?_)
  · have hc : (bif (lp == -1) then decide (((rs.length : Nat) : Int) > 0) else false) = true := hc
    cases hq : (lp == -1) with
    | false => rw [hq] at hc; cases hc
    | true =>
      rw [hq] at hc
      have := of_decide_eq_true hc
      rw [lr (beq_iff_eq.1 hq)] at this
      exact absurd this (by decide)
  refine zac ?_
  refine zan (σ' := ⟨[(1, ⟨.optr cal, ⟨0, cal, .here⟩⟩)], [(0, some (.box cal (ep, ms, lp, rs, ())))], 1⟩) ⟨⟨rfl, trivial⟩, ⟨rfl, trivial⟩, rfl, rfl⟩ ?_
  (repeat (first | refine zae ?_ | refine zac ?_ | refine zab ?_ | refine zad ?_)); refine zaa hX zcW rfl ?_ ?_
  · trivial
  (repeat (first | refine zae ?_ | refine zac ?_ | refine zab ?_ | refine zad ?_));
  refine AWP.loop (ι := Nat) (fun k => ⟨[(1, ⟨.optr cal, ⟨0, cal, .here⟩⟩), (50, ⟨ints, ms⟩), (51, ⟨i64, ((ms.length : Nat) : Int)⟩), (52, ⟨i64, (k : Int)⟩)], [(0, some (.box cal (ep, ms, lp, rs, ())))], 1⟩) (fun k => k ≤ ms.length) (fun k => ms.length - k) 0 (Nat.zero_le _) ⟨⟨rfl, rfl, rfl, rfl, trivial⟩, ⟨rfl, trivial⟩, rfl, rfl⟩ ?_
  intro k hk
  (repeat (first | refine zae ?_ | refine zac ?_ | refine zab ?_ | refine zad ?_)); refine zaa hX zcW rfl ?_ ?_
  · trivial
  refine zae ?_
  refine zai rfl (fun hb => ?_) (fun hb => ?_)
  · have hb : decide ((k : Int) < (ms.length : Nat)) = true := hb
    have hb := of_decide_eq_true hb
    have hlt : k < ms.length := by omega
    have z0 : (0 : Int) ≤ (k : Int) := by omega
    have hgd : ms.getD (k : Int).toNat (0 : Int) = ms[k] := zaR hlt
    obtain ⟨g0, g1⟩ := hm ms[k] (List.getElem_mem hlt)
    rw [<- hgd] at g0 g1
    (repeat (first | refine zae ?_ | refine zac ?_ | refine zab ?_ | refine zad ?_)); refine zaa hX zcW rfl ?_ ?_
    · exact ⟨z0, hb⟩
    (repeat (first | refine zae ?_ | refine zac ?_ | refine zab ?_ | refine zad ?_)); refine zaa hX zcW rfl ?_ ?_
    · repeat' (first | exact trivial | assumption | (refine ⟨?_, ?_⟩) | (intro _) | exact Nat.le_of_ble_eq_true rfl | exact Int.natCast_nonneg _ | (simp_all [allP]; done))
    refine zai rfl (fun hc => ?_) (fun _ => ?_)
    · have hc : (bif decide (ms.getD (k : Int).toNat (0 : Int) < 1) then true else decide (ms.getD (k : Int).toNat (0 : Int) > 40)) = true := hc
      rw [zor (decide_eq_false (by omega)) (decide_eq_false (by omega))] at hc
      cases hc
    refine zac ?_
    (repeat (first | refine zae ?_ | refine zac ?_ | refine zab ?_ | refine zad ?_)); refine zaa hX zcW rfl ?_ ?_
    · exact zaT (by omega)
    exact ⟨k + 1, hlt, by omega, ⟨rfl, rfl, rfl, zdA _, trivial⟩, ⟨rfl, trivial⟩, rfl, rfl⟩
  · refine zad ?_
    (repeat (first | refine zae ?_ | refine zac ?_ | refine zab ?_ | refine zad ?_)); refine zaa hX zcW rfl ?_ ?_
    · trivial
    (repeat (first | refine zae ?_ | refine zac ?_ | refine zab ?_ | refine zad ?_)); refine zaa hX zcW rfl ?_ ?_
    · trivial
    refine AWP.ret ⟨.inr rfl, zay rfl trivial rfl rfl ?_⟩
    exact hper
def zrm : Ctr := { args := [.slice nd, .slice cal], pre := fun x => [List.length x.2.1 = 3, ∀ c ∈ (x.2.1 : List Cal), zjt c], res := i64, own := none, out := fun x => zcR x.1 }
def zCal : Cal := (0, [], 0, [], ())
def kVr : Kn := { gmK with C := [(71, cAnyR), (72, cWf), (73, cCalV), (74, zkk)] }
theorem zbE : KnOk Tryz.prog gmH kVr := zaj.with (.cons zrz <| .cons wf_ok <| .cons zrl <| .cons ziH .nil)
set_option maxHeartbeats 1000000 in
theorem zp6 : CtrOk Tryz.prog gmH 34 zrm := by
  refine zaq (K := kVr) zbE Tryz.func34 rfl rfl Tryz.call34 rfl (by decide) (by intro h; cases h) ?_
  rintro w0 X hX ⟨(r : List Nd), (cs : List Cal), _⟩ hp
  obtain ⟨hc3, hcs⟩ : cs.length = 3 ∧ ∀ c ∈ cs, zjt c := by
    simp only [zrm, allP] at hp
    simpa using hp
  change AWP _ _ _ _ _ ⟨[(0, ⟨.slice nd, r⟩), (1, ⟨.slice cal, cs⟩)], [], 0⟩ _
  (repeat (first | refine zae ?_ | refine zac ?_ | refine zab ?_ | refine zad ?_)); refine zaa hX zbE rfl ?_ ?_
  · trivial
  (repeat (first | refine zae ?_ | refine zac ?_ | refine zab ?_ | refine zad ?_)); refine zaa hX zbE rfl ?_ ?_
  · trivial
  (repeat (first | refine zae ?_ | refine zac ?_ | refine zab ?_ | refine zad ?_)); refine zaa hX zbE rfl ?_ ?_
  · repeat' (first | exact trivial | assumption | exact rfl | (refine ⟨?_, ?_⟩) | (intro _) | exact Nat.le_of_ble_eq_true rfl | exact Int.natCast_nonneg _ | (simp_all [allP]; done))
  have hbig : (bif decide (((r.length : Nat) : Int) > 64) then true else r.any bigN) = decide (64 < r.length ∨ r.any bigN = true) := by
    rw [b_or, Bool.eq_iff_iff, Bool.or_eq_true, decide_eq_true_iff, decide_eq_true_iff]
    constructor
    · rintro (h | h)
      · exact .inl (by omega)
      · exact .inr h
    · rintro (h | h)
      · exact .inl (by omega)
      · exact .inr h
  refine zai rfl (fun hb => ?_) (fun hb => ?_)
  · have hb := hbig.symm.trans hb
    have hb := of_decide_eq_true hb
    (repeat (first | refine zae ?_ | refine zac ?_ | refine zak ?_ | refine zad ?_ | refine zab ?_ | refine zaa hX zbE rfl trivial ?_ | refine zaa hX zbE rfl id ?_ | refine zaa hX zbE rfl ⟨id, id⟩ ?_))
    refine AWP.ret ⟨.inr rfl, zay rfl trivial rfl rfl ?_⟩
    show (2 : Int) = zcR r
    unfold zcR
    rw [if_pos hb]
  have hb := hbig.symm.trans hb
  have hnb := of_decide_eq_false hb
  refine zac ?_
  (repeat (first | refine zae ?_ | refine zac ?_ | refine zab ?_ | refine zad ?_)); refine zaa hX zbE rfl ?_ ?_
  · repeat' (first | exact trivial | assumption | (refine ⟨?_, ?_⟩) | (intro _) | exact Nat.le_of_ble_eq_true rfl | exact Int.natCast_nonneg _ | (simp_all [allP]; done))
  have hwt : (bif !wfS r then true else decide (((cs.length : Nat) : Int) > 3)) = !wfS r := by
    rw [hc3]
    cases wfS r <;> rfl
  refine zai rfl (fun hb => ?_) (fun hb => ?_)
  · have hb := hwt.symm.trans hb
    rw [Bool.not_eq_true'] at hb
    (repeat (first | refine zae ?_ | refine zac ?_ | refine zak ?_ | refine zad ?_ | refine zab ?_ | refine zaa hX zbE rfl trivial ?_ | refine zaa hX zbE rfl id ?_ | refine zaa hX zbE rfl ⟨id, id⟩ ?_))
    refine AWP.ret ⟨.inr rfl, zay rfl trivial rfl rfl ?_⟩
    show (1 : Int) = zcR r
    unfold zcR
    rw [if_neg hnb, if_neg (by rw [hb]; decide)]
  have hb := hwt.symm.trans hb
  rw [Bool.not_eq_false'] at hb
  have hv : zcR r = 0 := by unfold zcR; rw [if_neg hnb, if_pos hb]
  obtain ⟨⟨w1, w2⟩, w3, _⟩ := zdo hb
  refine zac ?_
  (repeat (first | refine zae ?_ | refine zac ?_ | refine zab ?_ | refine zad ?_)); refine zaa hX zbE rfl ?_ ?_
  · trivial
  (repeat (first | refine zae ?_ | refine zac ?_ | refine zab ?_ | refine zad ?_));
  refine zan (σ' := ⟨[(0, ⟨.slice nd, r⟩), (1, ⟨.slice cal, cs⟩), (27, ⟨.slice cal, cs⟩), (28, ⟨i64, ((cs.length : Nat) : Int)⟩), (29, ⟨i64, (0 : Int)⟩)], [], 0⟩) ⟨⟨rfl, rfl, rfl, rfl, rfl, trivial⟩, trivial, rfl, rfl⟩ ?_
  refine AWP.loop (ι := Nat) (fun k => ⟨[(0, ⟨.slice nd, r⟩), (1, ⟨.slice cal, cs⟩), (27, ⟨.slice cal, cs⟩), (28, ⟨i64, ((cs.length : Nat) : Int)⟩), (29, ⟨i64, (k : Int)⟩)], [], 0⟩) (fun k => k ≤ cs.length) (fun k => cs.length - k) 0 (Nat.zero_le _) ⟨⟨rfl, rfl, rfl, rfl, rfl, trivial⟩, trivial, rfl, rfl⟩ ?_
  intro k hk
  (repeat (first | refine zae ?_ | refine zac ?_ | refine zab ?_ | refine zad ?_)); refine zaa hX zbE rfl ?_ ?_
  · trivial
  refine zae ?_
  refine zai rfl (fun hb => ?_) (fun hb => ?_)
  · have hb : decide ((k : Int) < (cs.length : Nat)) = true := hb
    have hb := of_decide_eq_true hb
    have hlt : k < cs.length := by omega
    have z0 : (0 : Int) ≤ (k : Int) := by omega
    have hgd : cs.getD (k : Int).toNat zCal = cs[k] := zaR hlt
    have hok := hcs cs[k] (List.getElem_mem hlt)
    rw [<- hgd] at hok
    (repeat (first | refine zae ?_ | refine zac ?_ | refine zab ?_ | refine zad ?_)); refine zaa hX zbE rfl ?_ ?_
    · exact ⟨z0, hb⟩
    (repeat (first | refine zae ?_ | refine zac ?_ | refine zab ?_ | refine zad ?_)); refine zaa hX zbE rfl ?_ ?_
    · exact hok
    refine zai rfl (fun hc => ?_) (fun _ => ?_)
    · have hc : (!true) = true := hc
      cases hc
    refine zac ?_
    (repeat (first | refine zae ?_ | refine zac ?_ | refine zab ?_ | refine zad ?_)); refine zaa hX zbE rfl ?_ ?_
    · exact zaT (by omega)
    exact ⟨k + 1, hlt, by omega, ⟨rfl, rfl, rfl, rfl, zdA _, trivial⟩, trivial, rfl, rfl⟩
  · refine zad ?_
    (repeat (first | refine zae ?_ | refine zac ?_ | refine zab ?_ | refine zad ?_)); refine zaa hX zbE rfl ?_ ?_
    · trivial
    (repeat (first | refine zae ?_ | refine zac ?_ | refine zab ?_ | refine zad ?_)); refine zaa hX zbE rfl ?_ ?_
    · trivial
    (repeat (first | refine zae ?_ | refine zac ?_ | refine zab ?_ | refine zad ?_));
    refine AWP.loop (ι := Nat) (fun i => ⟨[(0, ⟨.slice nd, r⟩), (1, ⟨.slice cal, cs⟩), (8, ⟨.optr (.arr 19 shp), ⟨0, .arr 19 shp, .here⟩⟩), (38, ⟨.slice nd, r⟩), (39, ⟨i64, ((r.length : Nat) : Int)⟩), (40, ⟨i64, (i : Int)⟩)], [(0, some (.box (.arr 19 shp) zcs))], 1⟩) (fun i => i ≤ r.length) (fun i => r.length - i) 0 (Nat.zero_le _) ⟨⟨rfl, rfl, rfl, rfl, rfl, rfl, trivial⟩, ⟨rfl, trivial⟩, rfl, rfl⟩ ?_
    intro i hi
    (repeat (first | refine zae ?_ | refine zac ?_ | refine zab ?_ | refine zad ?_)); refine zaa hX zbE rfl ?_ ?_
    · trivial
    refine zae ?_
    refine zai rfl (fun hb => ?_) (fun hb => ?_)
    · have hb : decide ((i : Int) < (r.length : Nat)) = true := hb
      have hb := of_decide_eq_true hb
      have hlt : i < r.length := by omega
      have z0 : (0 : Int) ≤ (i : Int) := by omega
      have hf := (zcB w3 hlt).1
      obtain ⟨⟨k1, k2⟩, _, hcal, _⟩ := zaF hf
      (repeat (first | refine zae ?_ | refine zac ?_ | refine zab ?_ | refine zad ?_)); refine zaa hX zbE rfl ?_ ?_
      · exact ⟨z0, hb⟩
      refine zan (σ' := ⟨[(0, ⟨.slice nd, r⟩), (1, ⟨.slice cal, cs⟩), (8, ⟨.optr (.arr 19 shp), ⟨0, .arr 19 shp, .here⟩⟩), (38, ⟨.slice nd, r⟩), (39, ⟨i64, ((r.length : Nat) : Int)⟩), (40, ⟨i64, (i : Int)⟩), (10, ⟨.optr nd, ⟨1, nd, .here⟩⟩)], [(0, some (.box (.arr 19 shp) zcs)), (1, some (.box nd (zas r i)))], 2⟩) ⟨⟨rfl, rfl, rfl, rfl, rfl, rfl, rfl, trivial⟩, ⟨rfl, rfl, trivial⟩, rfl, rfl⟩ ?_
      generalize zas r i = n at *
      have t0 : (0 : Int) ≤ ndK n := by omega
      have t1 : ndK n < ((19 : Nat) : Int) := by omega
      have t2 : (ndK n).toNat < 19 := by omega
      (repeat (first | refine zae ?_ | refine zac ?_ | refine zab ?_ | refine zad ?_)); refine zaa hX zbE rfl ?_ ?_
      · repeat' (first | exact trivial | assumption | exact t0 | exact t1 | exact t2 | (refine ⟨?_, ?_⟩) | (intro _) | exact Nat.le_of_ble_eq_true rfl | exact Int.natCast_nonneg _ | (simp_all [allP]; done))
      refine zai rfl (fun hc => ?_) (fun _ => ?_)
      · have hc : (bif (zdc (ndK n)).2.1 then decide (ndC n ≥ ((cs.length : Nat) : Int)) else false) = true := hc
        exfalso
        unfold zeg at hcal
        cases hq : (zdc (ndK n)).2.1 with
        | false => rw [hq] at hc; cases hc
        | true =>
          rw [hq, cond_true] at hc hcal
          have h1 := of_decide_eq_true hc
          have h2 := zaJ.1 hcal
          omega
      refine zac ?_
      (repeat (first | refine zae ?_ | refine zac ?_ | refine zab ?_ | refine zad ?_)); refine zaa hX zbE rfl ?_ ?_
      · exact zaT (by omega)
      exact ⟨i + 1, hlt, by omega, ⟨rfl, rfl, rfl, rfl, rfl, zdA _, trivial⟩, ⟨rfl, trivial⟩, rfl, rfl⟩
    · (repeat (first | refine zae ?_ | refine zac ?_ | refine zak ?_ | refine zad ?_ | refine zab ?_ | refine zaa hX zbE rfl trivial ?_ | refine zaa hX zbE rfl id ?_ | refine zaa hX zbE rfl ⟨id, id⟩ ?_))
      refine AWP.ret ⟨.inr rfl, zay rfl trivial rfl rfl ?_⟩
      exact hv.symm
def zpK : List Int := [31, 28, 31, 30, 31, 30, 31, 31, 30, 31, 30, 31]
def zgs : List Int := [30, 29, 30, 29, 30, 29, 30, 29, 30, 29, 30, 29]
def zgi : List Int := [2, 5, 7, 10, 13, 16, 18, 21, 24, 26, 29]
def zkQ (k : Int) : Cal :=
  if k = 0 then (7, zpK, 1, [(4, 0, true, ()), (100, 0, false, ()), (400, 0, true, ())], ())
  else if k = 1 then (5, zpK, 1, [(4, 0, true, ())], ())
  else (227021, zgs, 11, zgi.map fun x => (30, x, true, ()), ())
def zn7 : Ctr := { args := [i64], pre := fun x => [0 ≤ x.1, x.1 ≤ 2], res := .tup cal (.tup i64 .unit), own := none, out := fun x => (zkQ x.1, (0 : Int), ()) }
def kKw : Kn := { gmK with H := [63] }
theorem zbU : KnOk Tryz.prog gmH kKw := ⟨zgH, zgG, CsOk.nil, zhA, RsOk.nil⟩
def lunVal : Value := .agg #[.int .i64 227021, .slice none 0 0, .int .i64 11, .slice none 0 0]
theorem zna : Tryz.prog.built 63 [(0, .int .i64 227021), (2, .int .i64 11)] = some #[.int .i64 227021, .slice none 0 0, .int .i64 11, .slice none 0 0] := by kernel_rfl
theorem bufL {te : TypeId} {x y : List Lr} (h : x = y) : some (OObj.buf te lru x) = some (OObj.buf te lru y) := by rw [h]
set_option maxHeartbeats 1000000 in
theorem zpa : CtrOk Tryz.prog gmH 59 zn7 := by
  refine zaq (K := kKw) zbU Tryz.func59 rfl rfl Tryz.call59 rfl (by decide) (by intro h; cases h) ?_
  rintro w0 X hX ⟨(k : Int), _⟩ hp
  obtain ⟨h0, h1⟩ : 0 ≤ k ∧ k ≤ 2 := by
    simp only [zn7, allP] at hp
    simpa using hp
  change AWP _ _ _ _ _ ⟨[(0, ⟨i64, k⟩)], [], 0⟩ _
  (repeat (first | refine zae ?_ | refine zac ?_ | refine zab ?_ | refine zad ?_)); refine zaa hX zbU rfl ?_ ?_
  · trivial
  (repeat (first | refine zae ?_ | refine zac ?_ | refine zab ?_ | refine zad ?_)); refine zaa hX zbU rfl ?_ ?_
  · trivial
  refine AWP.frz hX 4 ?_
  (repeat (first | refine zae ?_ | refine zac ?_ | refine zab ?_ | refine zad ?_)); refine zaa hX zbU rfl ?_ ?_
  · trivial
  (repeat (first | refine zae ?_ | refine zac ?_ | refine zab ?_ | refine zad ?_)); refine zaa hX zbU rfl ?_ ?_
  · trivial
  (repeat (first | refine zae ?_ | refine zac ?_ | refine zab ?_ | refine zad ?_)); refine zaa hX zbU rfl ?_ ?_
  · trivial
  refine zai rfl (fun hb => ?_) (fun hb => ?_)
  · have hb : (k == 0) = true := hb
    obtain rfl := beq_iff_eq.1 hb
    (repeat (first | refine zae ?_ | refine zac ?_ | refine zab ?_ | refine zad ?_)); refine zaa hX zbU rfl ?_ ?_
    · trivial
    refine AWP.frz hX 6 ?_
    (repeat (first | refine zae ?_ | refine zac ?_ | refine zab ?_ | refine zad ?_)); refine zaa hX zbU rfl ?_ ?_
    · trivial
    refine AWP.ret ⟨.inr rfl, zba (by decide) rfl rfl trivial ?_⟩
    rfl
  have hb : (k == 0) = false := hb
  have hk0 : k ≠ 0 := fun e => by rw [e] at hb; cases hb
  (repeat (first | refine zae ?_ | refine zac ?_ | refine zab ?_ | refine zad ?_)); refine zaa hX zbU rfl ?_ ?_
  · trivial
  refine zai rfl (fun hb => ?_) (fun hb => ?_)
  · have hb : (k == 1) = true := hb
    obtain rfl := beq_iff_eq.1 hb
    (repeat (first | refine zae ?_ | refine zac ?_ | refine zab ?_ | refine zad ?_)); refine zaa hX zbU rfl ?_ ?_
    · trivial
    refine AWP.ret ⟨.inr rfl, zba (by decide) rfl rfl trivial ?_⟩
    rfl
  have hb : (k == 1) = false := hb
  have hk1 : k ≠ 1 := fun e => by rw [e] at hb; cases hb
  (repeat (first | refine zae ?_ | refine zac ?_ | refine zab ?_ | refine zad ?_)); refine zaa hX zbU rfl ?_ ?_
  · trivial
  refine zai rfl (fun hb => ?_) (fun hb => ?_)
  · have hb : (k == 2) = true := hb
    obtain rfl := beq_iff_eq.1 hb
    (repeat (first | refine zae ?_ | refine zac ?_ | refine zab ?_ | refine zad ?_)); refine zah ?_
    refine AL.litv rfl (by intro c e; cases e) rfl rfl lunVal (fun β a w hs => by
      unfold execOp
      refine zdG ?_
      rw [show (#[(0, Operand.const (Value.int .i64 227021)), (2, Operand.const (Value.int .i64 11))] : Array (Nat × Operand)).map (fun p => (p.1, a.eval p.2)) = #[(0, Value.int .i64 227021), (2, Value.int .i64 11)] from by simp; exact ⟨rfl, rfl⟩]
      exact run_build w _ _ _ zna) ?_
    refine AL.all hX zbU rfl trivial ?_
    refine AWP.nilLeaf 3 1 3 i64 rfl rfl rfl ?_
    refine AWP.nilLeaf 3 3 129 lru rfl rfl rfl ?_
    (repeat (first | refine zae ?_ | refine zac ?_ | refine zab ?_ | refine zad ?_)); refine zaa hX zbU rfl ?_ ?_
    · trivial
    (repeat (first | refine zae ?_ | refine zac ?_ | refine zab ?_ | refine zad ?_));
    refine AWP.loop (ι := Nat) (fun i => ⟨[(2, ⟨.hptr, ((0 : Nat), (0 : Nat))⟩), (7, ⟨.hptr, ((3 : Nat), (0 : Nat))⟩), (32, ⟨i64, (i : Int)⟩)], [(0, some (.hbox 63 [⟨i64, (0 : Int)⟩, ⟨.lit, .slice none 0 0⟩, ⟨i64, (0 : Int)⟩, ⟨.lit, .slice none 0 0⟩])), (3, some (.hbox 63 [⟨i64, (227021 : Int)⟩, ⟨.obuf i64, (4 : Nat)⟩, ⟨i64, (11 : Int)⟩, ⟨.obuf lru, (5 : Nat)⟩])), (4, some (.buf 3 i64 (zgs.take i))), (5, some (.buf 129 lru []))], 6⟩) (fun i => i ≤ 12) (fun i => 12 - i) 0 (Nat.zero_le _) ⟨⟨rfl, rfl, rfl, trivial⟩, ⟨rfl, rfl, rfl, rfl, trivial⟩, rfl, rfl⟩ ?_
    · intro i hi
      (repeat (first | refine zae ?_ | refine zac ?_ | refine zab ?_ | refine zad ?_)); refine zaa hX zbU rfl ?_ ?_
      · trivial
      refine zae ?_
      refine zai rfl (fun hb => ?_) (fun hb => ?_)
      · have hb : decide ((i : Int) < 12) = true := hb
        have hb := of_decide_eq_true hb
        obtain ⟨hv, hv2, hv3⟩ : (inR .i64 ((30 : Int) - (i : Int).tmod 2)) ∧ zgs.take i ++ [(30 : Int) - (i : Int).tmod 2] = zgs.take (i + 1) ∧ (zgs.take i).length ≤ 12 := by
          rcases (show i = 0 ∨ i = 1 ∨ i = 2 ∨ i = 3 ∨ i = 4 ∨ i = 5 ∨ i = 6 ∨ i = 7 ∨ i = 8 ∨ i = 9 ∨ i = 10 ∨ i = 11 by omega) with rfl | rfl | rfl | rfl | rfl | rfl | rfl | rfl | rfl | rfl | rfl | rfl <;> exact ⟨zat (by decide) (by decide), by decide, by decide⟩
        have q0 : (2 : Int) ≠ 0 := by decide
        have q1 : (zgs.take i).length + 1 ≤ 1000000000 := by omega
        (repeat (first | refine zae ?_ | refine zac ?_ | refine zab ?_ | refine zad ?_)); refine zaa hX zbU rfl ?_ ?_
        · trivial
        (repeat (first | refine zae ?_ | refine zac ?_ | refine zab ?_ | refine zad ?_)); refine zaa hX zbU rfl ?_ ?_
        · exact ⟨q0, hv, q1⟩
        (repeat (first | refine zae ?_ | refine zac ?_ | refine zab ?_ | refine zad ?_)); refine zaa hX zbU rfl ?_ ?_
        · exact zaT (by omega)
        exact ⟨i + 1, by omega, by omega, ⟨rfl, rfl, zdA _, trivial⟩, ⟨rfl, rfl, bufI hv2, rfl, trivial⟩, rfl, rfl⟩
      · have hb : decide ((i : Int) < 12) = false := hb
        have hb := of_decide_eq_false hb
        obtain rfl : i = 12 := by omega
        refine zad ?_
        (repeat (first | refine zae ?_ | refine zac ?_ | refine zab ?_ | refine zad ?_)); refine zaa hX zbU rfl ?_ ?_
        · trivial
        refine AWP.frz hX 44 ?_
        (repeat (first | refine zae ?_ | refine zac ?_ | refine zab ?_ | refine zad ?_));
        refine AWP.loop (ι := Nat) (fun j => ⟨[(2, ⟨.hptr, ((0 : Nat), (0 : Nat))⟩), (7, ⟨.hptr, ((3 : Nat), (0 : Nat))⟩), (44, ⟨ints, zgi⟩), (45, ⟨i64, (11 : Int)⟩), (46, ⟨i64, (j : Int)⟩)], [(0, some (.hbox 63 [⟨i64, (0 : Int)⟩, ⟨.lit, .slice none 0 0⟩, ⟨i64, (0 : Int)⟩, ⟨.lit, .slice none 0 0⟩])), (3, some (.hbox 63 [⟨i64, (227021 : Int)⟩, ⟨.obuf i64, (4 : Nat)⟩, ⟨i64, (11 : Int)⟩, ⟨.obuf lru, (5 : Nat)⟩])), (4, some (.buf 3 i64 zgs)), (5, some (.buf 129 lru ((zgi.take j).map fun x => (30, x, true, ()))))], 6⟩) (fun j => j ≤ 11) (fun j => 11 - j) 0 (Nat.zero_le _) ⟨⟨rfl, rfl, rfl, rfl, rfl, trivial⟩, ⟨rfl, rfl, rfl, rfl, trivial⟩, rfl, rfl⟩ ?_
        intro j hj
        (repeat (first | refine zae ?_ | refine zac ?_ | refine zab ?_ | refine zad ?_)); refine zaa hX zbU rfl ?_ ?_
        · trivial
        refine zae ?_
        refine zai rfl (fun hb => ?_) (fun hb => ?_)
        · have hb : decide ((j : Int) < 11) = true := hb
          have hb := of_decide_eq_true hb
          have hlt : j < zgi.length := by show j < 11; omega
          have z0 : (0 : Int) ≤ (j : Int) := by omega
          have z1 : (j : Int) < ((zgi.length : Nat) : Int) := by omega
          have hl : ((zgi.take j).map fun x => ((30, x, true, ()) : Lr)).length + 1 ≤ 1000000000 := by rw [List.length_map, List.length_take]; omega
          (repeat (first | refine zae ?_ | refine zac ?_ | refine zab ?_ | refine zad ?_)); refine zaa hX zbU rfl ?_ ?_
          · exact ⟨z0, z1⟩
          (repeat (first | refine zae ?_ | refine zac ?_ | refine zab ?_ | refine zad ?_)); refine zaa hX zbU rfl ?_ ?_
          · exact hl
          (repeat (first | refine zae ?_ | refine zac ?_ | refine zab ?_ | refine zad ?_)); refine zaa hX zbU rfl ?_ ?_
          · exact zaT (by omega)
          refine ⟨j + 1, by omega, by omega, ⟨rfl, rfl, rfl, rfl, zdA _, trivial⟩, ⟨rfl, rfl, rfl, bufL ?_, trivial⟩, rfl, rfl⟩
          rw [List.take_succ_eq_append_getElem hlt, List.map_append]
          show _ ++ [((30 : Int), zgi.getD (j : Int).toNat (0 : Int), true, ())] = _
          rw [zaR hlt]
          rfl
        · have hb : decide ((j : Int) < 11) = false := hb
          have hb := of_decide_eq_false hb
          obtain rfl : j = 11 := by omega
          refine zad ?_
          refine AWP.frzL hX 3 1 ?_
          refine AWP.frzL hX 3 3 ?_
          (repeat (first | refine zae ?_ | refine zac ?_ | refine zab ?_ | refine zad ?_)); refine zaa hX zbU rfl ?_ ?_
          · trivial
          refine AWP.ret ⟨.inr rfl, zba (by decide) rfl rfl trivial ?_⟩
          rfl
  · have hb : (k == 2) = false := hb
    exact absurd (beq_iff_eq.2 (by omega : k = 2)) (by rw [hb]; decide)
theorem zoS (A : Option Addr) (n c : Nat) : Tryz.prog.built 107 [(1, .slice A n c)] = some #[.pointer none, .slice none 0 0, .slice A n c] := by kernel_rfl
abbrev prV : Ty := .hcons .lit (.hcons .lit (.hcons (.slice nd) .unit))
def prX (r : List Nd) : prV.T := (.pointer none, (.slice none 0 0, (r, ())))
section
variable {w0 : World} {X : Ownr} {n : Nat} {Q : Exit -> AS -> Prop} {ops : Array Oper} {F : Frame} {E : Owns} {nx : Nat}
theorem AL.bldPr {o : Oper} {rest : List Oper} {x : Operand} (ho : o.op = .build 107 #[(1, x)]) (hgd : o.guard = none) {d : Nat} (hd : o.dst = some d) (hdn : Nat.blt d n = true) {r : List Nd} (hx : evO F x = ⟨.slice nd, r⟩)
    (h : AL Tryz.prog w0 X n ops rest ⟨(d, ⟨prV, prX r⟩) :: F, E, nx⟩ Q) : AL Tryz.prog w0 X n ops (o :: rest) ⟨F, E, nx⟩ Q := by
  refine AL.hand hgd (fun c e => by rw [ho] at e; cases e) fun β a w hs => ?_
  have hsx := hs.ops x
  rw [show evO (AS.mk F E nx).F x = _ from hx] at hsx
  have hsx' := hsx
  obtain ⟨v, e, hS⟩ := hsx
  obtain ⟨A, m, c, hv⟩ : ∃ A m c, a.eval x = .slice A m c := by
    rw [List.singleton_inj.1 e]
    rcases hS with ⟨_, A, c, rfl, _⟩ | ⟨g, off, c, vs, rfl, _⟩
    · exact ⟨_, _, _, rfl⟩
    · exact ⟨_, _, _, rfl⟩
  rw [hv] at hsx'
  refine zmc hd hdn (v := ⟨prV, prX r⟩) (Nat.zero_le _) (N := fun σ' => AL Tryz.prog w0 X n ops rest σ' Q) h hs (u := .agg #[.pointer none, .slice none 0 0, .slice A m c]) ?_ ?_
  · unfold execOp
    simp only [ho]
    refine zdG ?_
    rw [show (#[(1, x)] : Array (Nat × Operand)).map (fun p => (p.1, a.eval p.2)) = #[(1, Value.slice A m c)] from by simp [hv]]
    exact run_build w _ _ _ (zoS A m c)
  · exact ⟨_, [_, _], rfl, rfl, rfl, _, [_], rfl, rfl, rfl, _, [], rfl, rfl, hsx', [], rfl, rfl⟩
theorem AL.box3 (hX : X.Ok w0) {o : Oper} {rest : List Oper} {t : TypeId} {x : Operand} (ho : o.op = .box t x) (hgd : o.guard = none) {d : Nat} (hd : o.dst = some d) (hdn : Nat.blt d n = true) {A : Ty} {q1 q2 : Value} {p : A.T} (hx : evO F x = ⟨.hcons .lit (.hcons .lit (.hcons A .unit)), (q1, (q2, (p, ())))⟩)
    (hA : A.plainL = true) (hbA : (⟨A, p⟩ : V).bound = 0) (h : AL Tryz.prog w0 X n ops rest ⟨(d, ⟨.hptr, (nx, (0 : Nat))⟩) :: F, (nx, some (.hbox t [⟨.lit, q1⟩, ⟨.lit, q2⟩, ⟨A, p⟩])) :: E, nx + 1⟩ Q) : AL Tryz.prog w0 X n ops (o :: rest) ⟨F, E, nx⟩ Q := by
  refine AL.hand hgd (fun c e => by rw [ho] at e; cases e) fun β a w hs => ?_
  have hlt : d < n := by simpa using hdn
  have h1 := hs.ops x
  rw [show evO (AS.mk F E nx).F x = _ from hx] at h1
  obtain ⟨c1, s1, e1, hc1, r1, h2⟩ := h1
  obtain ⟨c2, s2, e2, hc2, r2, h3⟩ := h2
  obtain ⟨c3, s3, e3, hc3, r3, h4⟩ := h3
  obtain ⟨cs, e4, h4⟩ : ∃ cs : List Value, (Value.agg s3.toArray) = .agg cs.toArray ∧ RepC w (OSet X E β) .unit () cs := (RepD.agg rfl).1 h4
  have h4 : cs = [] := h4
  subst h4
  have e4 : s3 = [] := by
    have := Value.agg.inj e4
    simpa using congrArg Array.toList this
  subst e4
  have e3 : s2 = [c3] := by
    have := Value.agg.inj e3
    simpa using congrArg Array.toList this
  subst e3
  have e2 : s1 = [c2, c3] := by
    have := Value.agg.inj e2
    simpa using congrArg Array.toList this
  subst e2
  refine zbq (u := .pointer (some ⟨w.heap.size, 0, none⟩)) (w' := w.alloc (.cells #[c1, c2, c3] t (0, 0))) ?_ ?_
  · unfold execOp
    simp only [ho]
    refine zdG ?_
    rw [e1]
    simp [Instr.box, newVar, newRow, Value.cells, go_sem]
  · rw [hd]
    have hk : Below w.heap.size w (w.alloc (.cells #[c1, c2, c3] t (0, 0))) := (Below.refl _ w).alloc (Nat.le_refl _) (.cells #[c1, c2, c3] t (0, 0))
    obtain ⟨β', h4⟩ := hs.make hX hk (bv := .pointer (some ⟨w.heap.size, 0, none⟩)) (o := .hbox t [⟨.lit, q1⟩, ⟨.lit, q2⟩, ⟨A, p⟩])
      (fun O β' hO => by
        have hkk : Keeps w (w.alloc (.cells #[c1, c2, c3] t (0, 0))) (OSet X E β) O := .of_below hk fun g hg hg' => by
          rcases hO g hg' with h5 | h5
          · exact h5
          · simp [zag] at h5
            omega
        exact ⟨w.heap.size, [c1, c2, c3], rfl, Nat.zero_le _, World.alloc_heap_new w _, ⟨c1, [c2, c3], rfl, hc1, r1, ⟨c2, [c3], rfl, hc2, r2, ⟨c3, [], rfl, hc3, RepV.plainL hkk hA r3, rfl⟩⟩⟩⟩) (fun g hg => by cases hg; exact Nat.le_refl _) (v := ⟨.hptr, (nx, (0 : Nat))⟩) (u := .pointer (some ⟨w.heap.size, 0, none⟩))
      (fun O β' hb => ⟨w.heap.size, by show zag (β' nx) = _; rw [show β' nx = _ from hb]; rfl, rfl⟩) (Nat.le_refl _) hlt (fun vs e v hv => by
        cases e
        rcases List.mem_cons.1 hv with rfl | hv
        · exact Nat.zero_le _
        · rcases List.mem_cons.1 hv with rfl | hv
          · exact Nat.zero_le _
          · rw [List.mem_singleton.1 hv, hbA]; exact Nat.zero_le _)
    exact ⟨_, β', h4, h⟩
end
theorem zhB {w0 : World} {O : Nat -> Prop} (hX : (Ownr.plain gmH O).Ok w0) {ty : TypeId} : ginv w0 (Ownr.plain gmH O).R ty := ⟨Ownr.plain_noR _ _ _, Ownr.plain_noR _ _ _⟩
theorem know3 (k : Int) (h : 0 ≤ k ∧ k ≤ 2) : zjt (zkQ k) := by
  have key : ∀ k : Fin 3, zjt (zkQ ((k.val : Nat) : Int)) := by
    intro k
    unfold zjt
    revert k
    decide +kernel
  have := key ⟨k.toNat, by omega⟩
  rwa [show (((⟨k.toNat, by omega⟩ : Fin 3).val : Nat) : Int) = k by show ((k.toNat : Nat) : Int) = k; omega] at this
def zpA (k : Nat) : List Cal := (List.range 3).map fun j => if j < k then zkQ ((j : Nat) : Int) else zCal
theorem bufC {te : TypeId} {x y : List Cal} (h : x = y) : some (OObj.buf te cal x) = some (OObj.buf te cal y) := by rw [h]
theorem zrk : ∀ c ∈ zpA 3, zjt c := fun c hc => by
  obtain ⟨j, hj, rfl⟩ := List.mem_map.1 hc
  have hj := List.mem_range.1 hj
  rw [if_pos hj]
  exact know3 _ ⟨by omega, by omega⟩
def cFmt : Ctr := { args := [.slice nd], pre := fun _ => [], res := .tup .str (.tup i64 .unit), own := none, out := fun x => ((fmtS x.1).1, (fmtS x.1).2, ()) }
def kFm : Kn := { gmK with C := [(59, zn7), (34, zrm)] }
theorem zbB : KnOk Tryz.prog gmH kFm := zaj.with (.cons zpa <| .cons zp6 .nil)
def hFm : List (FuncId × HCtr) := [(60, zjw 65), (61, zl7 prT [107])]
theorem zpT : HsOk Tryz.prog gmH hFm := .cons (zpL 65).1 <| .cons zqG .nil
set_option maxHeartbeats 1000000 in
theorem zjj : CtrOk Tryz.prog gmH 24 cFmt := by
  refine zaq (K := kFm) zbB Tryz.func24 rfl rfl Tryz.call24 rfl (by decide) (by intro h; cases h) ?_
  rintro w0 X hX ⟨(r : List Nd), _⟩ hp
  change AWP _ _ _ _ _ ⟨[(0, ⟨.slice nd, r⟩)], [], 0⟩ _
  refine AWP.len 0 rfl fun hl => ?_
  unfold maxLen at hl
  have hI : ∀ w R, (∀ g, R g -> w0.heap.size ≤ g ∨ (Ownr.plain gmH X).R g) -> (Ownr.plain gmH X).G w -> bInv prT [107] w R 107 := fun w R hR hw => ⟨zaD (ty := 107) hX rfl (zhB hX) (ty' := 107) w R hR hw, List.mem_singleton.2 rfl⟩
  (repeat (first | refine zae ?_ | refine zac ?_ | refine zab ?_ | refine zad ?_)); refine zaa hX zbB rfl ?_ ?_
  · trivial
  (repeat (first | refine zae ?_ | refine zac ?_ | refine zab ?_ | refine zad ?_)); refine zaa hX zbB rfl ?_ ?_
  · exact ⟨by decide, by decide, (by decide : (3 : Int) ≤ 1000000000)⟩
  (repeat (first | refine zae ?_ | refine zac ?_ | refine zab ?_ | refine zad ?_)); refine zaa hX zbB rfl ?_ ?_
  · trivial
  (repeat (first | refine zae ?_ | refine zac ?_ | refine zab ?_ | refine zad ?_));
  refine AWP.loop (ι := Nat) (fun k => ⟨[(0, ⟨.slice nd, r⟩), (4, ⟨.obuf cal, (0 : Nat)⟩), (10, ⟨i64, (3 : Int)⟩), (11, ⟨i64, (k : Int)⟩)], [(0, some (.buf 63 cal (zpA k)))], 1⟩) (fun k => k ≤ 3) (fun k => 3 - k) 0 (Nat.zero_le _) ⟨⟨rfl, rfl, rfl, rfl, trivial⟩, ⟨rfl, trivial⟩, rfl, rfl⟩ ?_
  intro k hk
  (repeat (first | refine zae ?_ | refine zac ?_ | refine zab ?_ | refine zad ?_)); refine zaa hX zbB rfl ?_ ?_
  · trivial
  refine zae ?_
  refine zai rfl (fun hb => ?_) (fun hb => ?_)
  · have hb : decide ((k : Int) < 3) = true := hb
    have hb := of_decide_eq_true hb
    have z0 : (0 : Int) ≤ (k : Int) := by omega
    have z1 : (k : Int) ≤ 2 := by omega
    have z2 : (k : Int) < (((zpA k).length : Nat) : Int) := by show (k : Int) < ((3 : Nat) : Int); omega
    have z3 : ((k : Int)).toNat < (zpA k).length := by show _ < 3; omega
    (repeat (first | refine zae ?_ | refine zac ?_ | refine zab ?_ | refine zad ?_)); refine zaa hX zbB rfl ?_ ?_
    · trivial
    (repeat (first | refine zae ?_ | refine zac ?_ | refine zab ?_ | refine zad ?_)); refine zaa hX zbB rfl ?_ ?_
    · repeat' (first | exact trivial | exact z0 | exact z1 | exact z2 | exact z3 | (refine ⟨?_, ?_⟩))
    (repeat (first | refine zae ?_ | refine zac ?_ | refine zab ?_ | refine zad ?_)); refine zaa hX zbB rfl ?_ ?_
    · exact zaT (by omega)
    refine ⟨k + 1, by omega, by omega, ⟨rfl, rfl, rfl, zdA _, trivial⟩, ⟨bufC ?_, trivial⟩, rfl, rfl⟩
    rcases (show k = 0 ∨ k = 1 ∨ k = 2 by omega) with rfl | rfl | rfl <;> rfl
  have hb : decide ((k : Int) < 3) = false := hb
  have hb := of_decide_eq_false hb
  obtain rfl : k = 3 := by omega
  refine zad ?_
  refine AWP.frz hX 4 ?_
  (repeat (first | refine zae ?_ | refine zac ?_ | refine zab ?_ | refine zad ?_)); refine zaa hX zbB rfl ?_ ?_
  · exact ⟨rfl, zrk⟩
  (repeat (first | refine zae ?_ | refine zac ?_ | refine zab ?_ | refine zad ?_)); refine zaa hX zbB rfl ?_ ?_
  · trivial
  refine zai rfl (fun hb => ?_) (fun hb => ?_)
  · have hb : (zcR r != 0) = true := hb
    have hb := bne_iff_ne.1 hb
    (repeat (first | refine zae ?_ | refine zac ?_ | refine zak ?_ | refine zad ?_ | refine zab ?_ | refine zaa hX zbB rfl trivial ?_ | refine zaa hX zbB rfl id ?_ | refine zaa hX zbB rfl ⟨id, id⟩ ?_))
    refine AWP.ret ⟨.inr rfl, zba (by decide) rfl rfl trivial ?_⟩
    show (([] : List UInt8), zcR r, ()) = ((fmtS r).1, (fmtS r).2, ())
    unfold fmtS
    rw [if_neg hb]
  have hb : (zcR r != 0) = false := hb
  have hv : zcR r = 0 := by
    have := bne_eq_false_iff_eq.1 hb
    exact this
  have hwf := zjG hv
  have hok := zqh hwf
  have hsz := zmk hwf
  have htx := zmj hwf
  have htl := zfU _ hok
  obtain ⟨⟨w1, w2⟩, _⟩ := zdo hwf
  have hne := zqi hok (by omega)
  refine zac ?_
  refine zan (σ' := ⟨[(0, ⟨.slice nd, r⟩)], [], 1⟩) ⟨⟨rfl, trivial⟩, trivial, rfl, rfl⟩ ?_
  refine zae ?_
  refine zah ?_
  refine AL.take 1 hX zbB rfl trivial ?_
  refine AL.bldPr rfl rfl rfl rfl rfl ?_
  refine AL.box3 hX rfl rfl rfl rfl rfl rfl rfl ?_
  refine AL.nilLeaf 1 1 5 u8 rfl rfl rfl ?_
  refine AL.all hX zbB rfl trivial ?_
  have p0 : (0 : Int) ≤ ((r.length : Nat) : Int) - 1 := by omega
  have p1 : (((r.length : Nat) : Int) - 1).toNat < 65 := by omega
  have p2 : (((r.length : Nat) : Int) - 1).toNat < r.length := by omega
  have hnf : zcG 65 r (((r.length : Nat) : Int) - 1) = (zc5 r).text := by
    rw [<- htx]
    have hlow := zkL (zdo hwf).2.1
    rw [show (((r.length : Nat) : Int) - 1) = ((r.length - 1 : Nat) : Int) by omega, zf0 hlow _ _ (by omega) (by omega), zf0 hlow _ _ (by omega) (by omega), zhI hlow 65 (r.length + 1) _ (by omega) (by omega) (by omega)]
  have p3 : List.length ([] : List UInt8) + List.length (zcG 65 r (((r.length : Nat) : Int) - 1)) + 10000 ≤ 1000000000 := by
    rw [hnf, List.length_nil]; omega
  have p4 : inR .i64 (((r.length : Nat) : Int) - 1) := zat (by omega) (by omega)
  refine zan (σ' := ⟨[(0, ⟨.slice nd, r⟩), (7, ⟨.hptr, ((1 : Nat), (0 : Nat))⟩)], [(1, some (.hbox 107 [adV 1 false, ⟨.obuf u8, (2 : Nat)⟩, ⟨.slice nd, r⟩])), (2, some (.buf 5 u8 []))], 3⟩) ⟨⟨rfl, rfl, trivial⟩, ⟨rfl, rfl, trivial⟩, rfl, rfl⟩ ?_
  refine AWP.via (σ' := ⟨[(7, ⟨.hptr, ((1 : Nat), (0 : Nat))⟩)], [(1, some (.hbox 107 [adV 1 true, ⟨.obuf u8, (2 : Nat)⟩, ⟨.slice nd, r⟩])), (2, some (.buf 5 u8 (zc5 r).text))], 3⟩) ?_ ?_
  · refine zah ?_
    refine AL.own 4 hX zbB zpT rfl p4 rfl rfl ⟨wfp_of hwf, p0, p1, p2, p3⟩ hI ?_
    refine AL.nil ?_
    exact ⟨⟨rfl, trivial⟩, ⟨rfl, (by show some (OObj.buf _ u8 ([] ++ zcG 65 r _)) = _; rw [List.nil_append, hnf]), trivial⟩, rfl, rfl⟩
  have hf : fmtS r = if 4000 < (zc5 r).text.length then ([], 2) else ((zc5 r).text, 0) := by unfold fmtS; rw [if_pos hv]
  generalize (zc5 r).text = T at hf hne
  (repeat (first | refine zae ?_ | refine zac ?_ | refine zab ?_ | refine zad ?_)); refine zah ?_
  refine AL.take 2 hX zbB rfl trivial ?_
  refine AL.step (eqP0 _ _ rfl) hX zbB rfl trivial ?_
  refine AL.own 0 hX zbB zpT rfl trivial rfl rfl trivial hI ?_
  refine AL.all hX zbB rfl trivial ?_
  refine zan (σ' := ⟨[(7, ⟨.hptr, ((1 : Nat), (0 : Nat))⟩), (41, ⟨.bool, decide (((T.length : Nat) : Int) > 4000)⟩)], [(1, some (.hbox 107 [adV 1 true, ⟨.obuf u8, (2 : Nat)⟩, ⟨.slice nd, r⟩])), (2, some (.buf 5 u8 T))], 3⟩) ⟨⟨rfl, rfl, trivial⟩, ⟨rfl, rfl, trivial⟩, rfl, rfl⟩ ?_
  refine zai rfl (fun hb => ?_) (fun hb => ?_)
  · have hb := of_decide_eq_true hb
    (repeat (first | refine zae ?_ | refine zac ?_ | refine zak ?_ | refine zad ?_ | refine zab ?_ | refine zaa hX zbB rfl trivial ?_ | refine zaa hX zbB rfl id ?_ | refine zaa hX zbB rfl ⟨id, id⟩ ?_))
    refine AWP.ret ⟨.inr rfl, zba (by decide) rfl rfl trivial ?_⟩
    show (([] : List UInt8), (2 : Int), ()) = ((fmtS r).1, (fmtS r).2, ())
    rw [hf, if_pos (by omega)]
  · have hb := of_decide_eq_false hb
    refine zac ?_
    (repeat (first | refine zae ?_ | refine zac ?_ | refine zab ?_ | refine zad ?_)); refine zah ?_
    refine AL.take 2 hX zbB rfl trivial ?_
    refine AL.step (eqP0 _ _ rfl) hX zbB rfl trivial ?_
    refine AL.give hX (ziD prT rfl [107]) rfl rfl rfl rfl rfl rfl rfl rfl rfl rfl rfl rfl trivial hne hI rfl rfl ?_
    show AL _ _ _ _ _ _ _ _
    refine AL.all hX zbB rfl trivial ?_
    refine AWP.ret ⟨.inr rfl, zba (by decide) rfl rfl trivial ?_⟩
    show (T, (0 : Int), ()) = ((fmtS r).1, (fmtS r).2, ())
    rw [hf, if_neg (by omega)]
end Go.Proofs.YtpeaigpfddalcaaGreatDoor
namespace Go.Proofs.YtpeaigpfddalcaaGreatDoor
open Go Go.RowKit
set_option linter.unusedSimpArgs false
set_option linter.unusedVariables false
attribute [local go_sem] Oper.semAt_some
set_option maxRecDepth 100000
set_option maxHeartbeats 1000000 in
theorem zg5 (s : ByteArray) (c : Int) (w : World) :
    Calls Tryz.prog 217 #[.string s, .int .u8 c] w fun e w' => e = .returned (.int .i64 (Lib.indexByte s.data.toList c.toNat.toUInt8)) ∧ w' = w := by
  go_enter Tryz.func217, Tryz.ntmps217
  go_wp2
  rw [run_callFunc_extern Tryz.func244 (by kernel_rfl) (by kernel_rfl) (by kernel_rfl) (e := Extern.BytealgIndexByte.indexByte) (by kernel_rfl), Lib.run_indexByteString]
  simp only [Result.andThen]
  rw [Oper.upon_value]
  go_wp2
  go_ret
  exact ⟨rfl, rfl⟩
theorem zqK (l : List UInt8) (c : UInt8) : (Lib.indexByte l c = -1 ∧ ∀ x ∈ l, x ≠ c) ∨ ∃ n : Nat, Lib.indexByte l c = (n : Int) ∧ n < l.length ∧ (∀ x ∈ l.take n, x ≠ c) ∧ l.drop n = c :: l.drop (n + 1) := by
  induction l with
  | nil => exact .inl ⟨rfl, by simp⟩
  | cons b l ih =>
    unfold Lib.indexByte
    by_cases h : b = c
    · refine .inr ⟨0, by rw [if_pos (by simp [h])]; rfl, by simp, by simp, by simp [h]⟩
    · rw [if_neg (by simp [h])]
      rcases ih with ⟨h1, h2⟩ | ⟨n, h1, h2, h3, h4⟩
      · refine .inl ⟨by rw [h1]; rfl, fun x hx => ?_⟩
        rcases List.mem_cons.1 hx with rfl | hx
        · exact h
        · exact h2 x hx
      · refine .inr ⟨n + 1, ?_, by simp; omega, fun x hx => ?_, by simpa using h4⟩
        · rw [h1, if_neg (by simp)]
          omega
        · rw [List.take_succ_cons] at hx
          rcases List.mem_cons.1 hx with rfl | hx
          · exact h
          · exact h3 x hx
def segF : List UInt8 -> List UInt8 -> List (List UInt8)
  | c, [] => [c]
  | c, x :: r => if x = 10 then c :: segF [] r else segF (c ++ [x]) r
def segs (s : List UInt8) : List (List UInt8) := segF [] s
set_option maxHeartbeats 1000000 in
theorem zjO (s : ByteArray) (c : UInt8) (w : World) :
    Calls Tryz.prog 184 #[.string s, .string ⟨#[c]⟩] w fun e w' => e = .returned (.int .i64 (Lib.indexByte s.data.toList c)) ∧ w' = w := by
  go_enter Tryz.func184, Tryz.ntmps184
  go_wp2_with (go_at_call 217; refine (zg5 s _ _).mono ?_; rintro e w' ⟨rfl, rfl⟩)
  · rename_i hs
    go_ret
    rw [ByteArray.toList_eq] at hs
    have hs := eq_of_beq hs
    refine ⟨?_, rfl⟩
    rw [<- hs]
    show Ending.returned (.int .i64 0) = Ending.returned (.int .i64 (Lib.indexByte [c] c))
    unfold Lib.indexByte
    rw [if_pos (by simp)]
  · go_ret
    exact ⟨rfl, rfl⟩
set_option maxHeartbeats 1000000 in
theorem zhL (s : ByteArray) (c : UInt8) (w : World) :
    Calls Tryz.prog 147 #[.string s, .string ⟨#[c]⟩] w fun e w' => e = .returned (.int .i64 (Lib.indexByte s.data.toList c)) ∧ w' = w := by
  go_enter Tryz.func147, Tryz.ntmps147
  go_wp2_with (go_at_call 184; refine (zjO s c _).mono ?_; rintro e w' ⟨rfl, rfl⟩)
  go_ret
  exact ⟨rfl, rfl⟩
def itV (w : World) : Value := .func (.func 145) #[] #[.pointer (some ⟨w.heap.size + 1, 0, none⟩), .pointer (some ⟨w.heap.size, 0, none⟩), .pointer (some ⟨w.heap.size + 1 + 1, 0, none⟩)]
def itW (w : World) (s p : ByteArray) : World := ((w.alloc (.cells #[.string s] 9)).alloc (.cells #[.string p] 9)).alloc (.cells #[.int .i64 0] 3)
set_option maxHeartbeats 1000000 in
theorem zg2 (s p : ByteArray) (w : World) : Calls Tryz.prog 85 #[.string s, .string p, .int .i64 0] w fun e w' => e = .returned (itV w) ∧ w' = itW w s p := by
  go_enter Tryz.func85, Tryz.ntmps85
  go_wp2
  go_ret
  refine ⟨?_, rfl⟩
  unfold itV
  simp
set_option maxHeartbeats 1000000 in
theorem zhM (s p : ByteArray) (w : World) : Calls Tryz.prog 50 #[.string s, .string p] w fun e w' => e = .returned (itV w) ∧ w' = itW w s p := by
  go_enter Tryz.func50, Tryz.ntmps50
  go_wp2_with (go_at_call 85; refine (zg2 s p _).mono ?_; rintro e w' ⟨rfl, rfl⟩)
  go_ret
  exact ⟨rfl, rfl⟩
theorem ziI (p : List UInt8) (hp : ∀ x ∈ p, x ≠ 10) (r : List UInt8) : ∀ (c : List UInt8), segF c (p ++ r) = segF (c ++ p) r := by
  induction p with
  | nil => intro c; rw [List.append_nil]; rfl
  | cons x p ih =>
    intro c
    rw [List.cons_append]
    show (if x = 10 then _ else _) = _
    rw [if_neg (hp x (List.mem_cons_self ..)), ih (fun y hy => hp y (List.mem_cons_of_mem _ hy)), List.append_assoc]
    rfl
theorem zmz {l : List UInt8} (h : ∀ x ∈ l, x ≠ 10) : segs l = [l] := by
  have := ziI l h [] []
  rw [List.append_nil, List.nil_append] at this
  exact this
theorem zmy {l : List UInt8} {n : Nat} (h : ∀ x ∈ l.take n, x ≠ 10) (hd : l.drop n = 10 :: l.drop (n + 1)) : segs l = l.take n :: segs (l.drop (n + 1)) := by
  have := ziI (l.take n) h (l.drop n) []
  rw [List.take_append_drop, List.nil_append, hd] at this
  exact this.trans (if_pos rfl)
theorem zru (l : List UInt8) (n : Nat) : (ByteArray.mk l.toArray).extract 0 n = ⟨(l.take n).toArray⟩ := by
  apply ByteArray.ext
  rw [ByteArray.data_extract]
  simp
theorem zrv (l : List UInt8) (n : Nat) : (ByteArray.mk l.toArray).extract n l.length = ⟨(l.drop n).toArray⟩ := by
  apply ByteArray.ext
  rw [ByteArray.data_extract]
  simp
  exact List.take_of_length_le (by rw [List.length_drop]; exact Nat.le_refl _)
def itI (gs gp gv : Nat) (g : Nat) : Prop := g = gs ∨ g = gp ∨ g = gv
noncomputable def zpQ (gs : Nat) (W : World) : Nat := match W.cell? ⟨gs, 0, none⟩ with | some (.string s) => s.size | _ => 0
set_option maxHeartbeats 2000000 in
theorem zls (l gs gp gv : Nat) (s : List UInt8) (J : Nat -> World -> Prop) (Jr : World -> Prop) (W : World) (hne : gs ≠ gp ∧ gs ≠ gv) (hlen : s.length ≤ 2000000)
    (hs : W.heap[gs]? = some (.cells #[.string ⟨s.toArray⟩] 9 (0, 0))) (hp : W.heap[gp]? = some (.cells #[.string ⟨#[10]⟩] 9 (0, 0))) (hv : W.heap[gv]? = some (.cells #[.int .i64 0] 3 (0, 0)))
    (hJ : ∀ k A C, J k A -> Kept (itI gs gp gv) A C -> J k C)
    (hY : ∀ k y W1, J k W1 -> (segs s)[k]? = some y -> W.heap.size ≤ W1.heap.size -> YieldAt Fence.wide 0 Tryz.prog l #[.string ⟨y.toArray⟩] W1 fun e W' => (e = .returned (.bool true) ∧ J (k + 1) W' ∧ SameOn (itI gs gp gv) W.heap.size W1 W') ∨ (e = .returned (.bool false) ∧ Jr W'))
    (h0 : J 0 W) :
    CallsIn Fence.wide 1 Tryz.prog 145 #[.func (.yield l) #[] #[], .pointer (some ⟨gp, 0, none⟩), .pointer (some ⟨gs, 0, none⟩), .pointer (some ⟨gv, 0, none⟩)] W fun e W' => (∃ v, e = .returned v) ∧ (J (segs s).length W' ∨ Jr W') := by
  refine callsIn_of_wp Tryz.func145 rfl trivial ?_ rfl
  have c1 := (zaO hp).1
  have c2 := zaO hs
  simp only [Tryz.ntmps145, List.size_toArray, List.length_cons, List.length_nil, Nat.reduceAdd, Nat.reduceSub, Array.replicate_succ, Array.replicate_zero, List.push_toArray, List.append_toArray, List.nil_append, List.cons_append]
  gi_wp2
  gi_loopw [7] (fun p wr => ∃ (pre : List (List UInt8)) (rest : List UInt8), segs s = pre ++ segs rest ∧ rest.length ≤ s.length ∧ wr.heap[gs]? = some (.cells #[.string ⟨rest.toArray⟩] 9 (0, 0)) ∧ wr.heap[gp]? = some (.cells #[.string ⟨#[10]⟩] 9 (0, 0)) ∧ wr.heap[gv]? = some (.cells #[.int .i64 0] 3 (0, 0)) ∧ J pre.length wr ∧ W.heap.size ≤ wr.heap.size)
    (fun p wr => zpQ gs wr)
  case atStart => exact ⟨[], s, rfl, Nat.le_refl _, hs, hp, hv, h0, Nat.le_refl _⟩
  case round =>
    obtain ⟨pre, rest, hsg, hrl, hs', hp', hv', hj, hsz⟩ := hrel
    have d1 := (zaO hp').1
    have d2 := zaO hs'
    have d3 := (zaO hv').1
    gi_wp2
    refine ⟨trivial, (callsIn_wide.2 (zhL _ _ _)).mono ?_⟩
    rintro e w' ⟨rfl, rfl⟩
    have hix : Lib.indexByte (ByteArray.mk rest.toArray).data.toList 10 = Lib.indexByte rest 10 := rfl
    rw [hix]
    rcases zqK rest 10 with ⟨h1, h2⟩ | ⟨n, h1, h2, h3, h4⟩
    · rw [h1]
      have hseg := zmz h2
      rw [hseg] at hsg
      obtain ⟨fn, tmps, assign, body, hy, hR⟩ := hY pre.length rest _ hj (by rw [hsg]; simp) hsz
      gi_wp2
      refine hR.mono ?_
      rintro e W3 (⟨rfl, hJ3, hk3⟩ | ⟨rfl, hp3⟩)
      · gi_wp2
        go_end0
        refine ⟨⟨_, rfl⟩, .inl ?_⟩
        rw [hsg, List.length_append]
        exact hJ3
      · gi_wp2
        go_end0
        exact ⟨⟨_, rfl⟩, .inr hp3⟩
    · rw [h1]
      have hseg := zmy h3 h4
      rw [hseg] at hsg
      have hn0 : ¬ (n : Int) < 0 := by omega
      have hex : (ByteArray.mk rest.toArray).extract 0 n = ⟨(rest.take n).toArray⟩ := zru rest n
      have hex2 : (ByteArray.mk rest.toArray).extract (n + 1) rest.length = ⟨(rest.drop (n + 1)).toArray⟩ := zrv rest (n + 1)
      have hnl : n < rest.length := h2
      obtain ⟨fn, tmps, assign, body, hy, hR⟩ := hY pre.length (rest.take n) _ hj (by rw [hsg]; simp) hsz
      gi_wp2
      refine hR.mono ?_
      rintro e W3 (⟨rfl, hJ3, hk3⟩ | ⟨rfl, hp3⟩)
      · have e1 := (hk3.block gs (.inl rfl)).trans hs'
        have e2 := (hk3.block gp (.inr (.inl rfl))).trans hp'
        have e3 := (hk3.block gv (.inr (.inr rfl))).trans hv'
        have f1 := (zaO e2).1
        have f2 := zaO e1
        gi_wp2
        have g1 := zej (.string ⟨(rest.drop (n + 1)).toArray⟩) e1
        refine ⟨⟨pre ++ [rest.take n], rest.drop (n + 1), by rw [hsg, List.append_assoc]; rfl, by rw [List.length_drop]; omega, g1, (Below.heap_setCell W3 ⟨gs, 0, none⟩ _ gp fun e => hne.1 e.symm).trans e2, (Below.heap_setCell W3 ⟨gs, 0, none⟩ _ gv fun e => hne.2 e.symm).trans e3, ?_, ?_⟩, ?_⟩
        · rw [List.length_append, List.length_singleton]
          exact hJ _ _ _ hJ3 (zc6 W3 gs _ (.inl rfl))
        · exact Nat.le_trans hk3.size (zc6 (R := itI gs gp gv) W3 gs _ (.inl rfl)).size
        · unfold zpQ
          rw [(zaO g1).1, d2.1]
          show (rest.drop (n + 1)).toArray.size < rest.toArray.size
          simp
          omega
      · gi_wp2
        exact ⟨rfl, _, results_none rfl _ _ _, ⟨_, rfl⟩, .inr hp3⟩
theorem zfP {P : Program} {f : FuncId} {Q : Exit -> Act -> World -> Prop} {a : Act} {w : World} {g : Operand} {ps : Array Tmp} {assign body : Code} {m : Nat}
    (h : ∃ (l : Nat) (mark : List Deferred) (w1 : World) (d : Deferred) (w1' : World) (gf : FuncId) (args : Array Value) (w2 : World),
      (Instr.enterLoop f a.tmps ps assign body none).run P w = .ok (l, mark) w1 ∧ (resolve a.eval (rangeCall g l) 0).run P w1 = .ok d w1' ∧ (invoke d.target d.args).run P w1' = .ok (.enter gf args) w2 ∧
      CallsIn Fence.wide m P gf args w2 (fun e w3 => (∃ v, e = .returned v) ∧ ∃ jump w4, (Instr.endLoop l).run P w3 = .ok jump w4 ∧ (match jump with
        | none => Q .normal { a with defers := mark ++ a.defers } w4
        | some c => zfa P f c Q { a with defers := mark ++ a.defers } w4))) :
    zfa P f (.rangeFunc g ps assign body) Q a w := by
  intro b k cs hb hro
  obtain ⟨l, mark, w1, d, w1', gf, args, w2, he, hres, hinv, _, hcall⟩ := h
  rw [<- hro, <- hb] at he
  have henter := stepR_rangeFunc (P := P) (b := b) (a := a) (k := k) (cs := cs) (w := w) he hres hinv
  obtain ⟨e, w3, fr, ⟨⟨v, rfl⟩, jump, w4, hend, hj⟩, hsteps, hfn, hleave⟩ := hcall (b.atR { a with defers := mark ++ a.defers } (.inRangeFunc l :: k) :: cs) (room_wide _)
  have sback : StepsIn (Machine.fenced P Fence.wide) P (lone (b.atR a (.code (.rangeFunc g ps assign body) :: k)) cs w) (lone (b.atR { a with defers := mark ++ a.defers } ((jump.map Item.code).toList ++ k)) cs w4) := by
    refine .head (fenced_wide P _) henter (StepsIn.trans hsteps (.head (fenced_wide P _) ?_ (.one (fenced_wide P _) (stepR_endRangeFunc hend))))
    rw [<- finish_atR_inRangeFunc l v]
    exact step_leave_returned hleave
  cases jump with
  | none => exact ⟨.normal, _, w4, hj, sback⟩
  | some c =>
    obtain ⟨e', a'', w5, hq, harr⟩ := hj b k cs hb hro
    exact ⟨e', a'', w5, hq, .of_steps sback harr⟩
def zp2 (P : Program) (m : Nat) (gf : Nat) (lb : Array Value) (I : Nat -> Prop) (ts : List (List UInt8)) (w : World) : Prop :=
  ∀ (l : Nat) (J : Nat -> World -> Prop) (Jr : World -> Prop) (W : World), Below w.heap.size w W -> (∀ k A C, J k A -> Kept I A C -> J k C) ->
    (∀ k y W1, J k W1 -> ts[k]? = some y -> W.heap.size ≤ W1.heap.size -> YieldAt Fence.wide (m - 1) P l #[.string ⟨List.toArray y⟩] W1 fun e W' => (e = .returned (.bool true) ∧ J (k + 1) W' ∧ SameOn I W.heap.size W1 W') ∨ (e = .returned (.bool false) ∧ Jr W')) ->
    J 0 W ->
    CallsIn Fence.wide m P gf (#[.func (.yield l) #[] #[]] ++ lb) W fun e W' => (∃ v, e = .returned v) ∧ (J ts.length W' ∨ Jr W')
theorem zgZ {P : Program} {f : FuncId} {m : Nat} {g : Operand} {p : Tmp} {assign body : Code} {Q : Exit -> Act -> World -> Prop} {a : Act} {w : World} {gf : Nat} {lb : Array Value} (hg : a.eval g = .func (.func gf) #[] lb) (eg : ∀ args w, (callFunc gf args).run P w = .ok (.enter gf args) w)
    {I : Nat -> Prop} {ts : List (List UInt8)} {w0 : World} (hseq : zp2 P m gf lb I ts w0) (hb0 : Below w0.heap.size w0 w) (hI : ∀ k, I k -> k < w.heap.size)
    (J : Nat -> World -> Prop) (Jr : World -> Prop) (N : Nat -> List UInt8 -> Act -> World -> Prop) (hJ : ∀ k A C, J k A -> Kept (fun g => I g ∨ g = w.heap.size ∨ g = w.heap.size + 1) A C -> J k C) (hJr : ∀ A C, Jr A -> Kept (fun g => I g ∨ g = w.heap.size ∨ g = w.heap.size + 1) A C -> Jr C)
    (hN : ∀ k y a' A C, N k y a' A -> Kept (fun g => I g ∨ g = w.heap.size ∨ g = w.heap.size + 1) A C -> N k y a' C) (h0 : ∀ W1 : World, Below w.heap.size w W1 -> W1.heap.size = w.heap.size + 2 -> J 0 W1)
    (hassign : ∀ (l k : Nat) (y : List UInt8) (W : World), J k W -> ts[k]? = some y -> w.heap.size + 2 ≤ W.heap.size -> assign.wpIn (Fence.wide.inRound l) (m - 1) P (fun e a' W' => e = .normal ∧ N k y a' W' ∧ SameOn (fun g => I g ∨ g = w.heap.size ∨ g = w.heap.size + 1) (w.heap.size + 2) W W') { tmps := ((#[p] : Array Tmp).zip #[(.string ⟨y.toArray⟩ : Value)]).foldl (fun t (p, v) => t.setIfInBounds p v) a.tmps, defers := [] } W)
    (hbody : ∀ (l k : Nat) (y : List UInt8) (W : World) (a' : Act), ts[k]? = some y -> w.heap.size + 2 ≤ W.heap.size -> N k y a' W ->
      body.wpIn (Fence.wide.inRound l) (m - 1) P (fun e _ W3 => ((e = .normal ∧ J (k + 1) W3) ∨ (e = .ret ∧ Jr W3)) ∧ SameOn (fun g => I g ∨ g = w.heap.size ∨ g = w.heap.size + 1) (w.heap.size + 2) W W3) a' W)
    (hdone : ∀ W : World, J ts.length W -> W.heap[w.heap.size]? = some (.deferred (some [])) -> Q .normal { a with defers := { target := .collected w.heap.size, args := #[] } :: a.defers } W)
    (hret : ∀ (W : World), Jr W -> W.heap[w.heap.size]? = some (.deferred (some [])) -> Q .ret { a with defers := { target := .collected w.heap.size, args := #[] } :: a.defers } W) :
    zfa P f (.rangeFunc g #[p] assign body) Q a w := by
  obtain ⟨rec, hrec⟩ : ∃ rec : LoopState -> Option Code -> Loop, rec = fun st pe => { state := st, pending := pe, fn := f, tmps := a.tmps, params := #[p], assign, body, defers := w.heap.size } := ⟨_, rfl⟩
  obtain ⟨W1, hW1⟩ : ∃ W1, (w.alloc (.deferred (some []))).alloc (.loop (rec .ready none)) = W1 := ⟨_, rfl⟩
  have hs1 : W1.heap.size = w.heap.size + 2 := by rw [<- hW1]; simp
  have hL1 : W1.heap[w.heap.size + 1]? = some (.loop (rec .ready none)) := by
    rw [<- hW1]; have := World.alloc_heap_new (w.alloc (.deferred (some []))) (.loop (rec .ready none)); rwa [World.size_alloc] at this
  have hK1 : W1.heap[w.heap.size]? = some (.deferred (some [])) := by
    rw [<- hW1]; exact (Below.heap_alloc _ _ _ (by simp)).trans (World.alloc_heap_new w _)
  have hb1' : Below w.heap.size w W1 := by rw [<- hW1]; exact ((Below.refl _ w).alloc (Nat.le_refl _) _).alloc (by simp) _
  have hJ1 : J 0 W1 := h0 _ hb1' hs1
  have hb1 : Below w0.heap.size w0 W1 := hb0.trans (hb1'.mono hb0.size)
  refine zfP (m := m) ⟨w.heap.size + 1, [{ target := .collected w.heap.size, args := #[] }], W1, { target := .fn (.func gf) lb, args := #[.func (.yield (w.heap.size + 1)) #[] #[]] }, W1, gf,
    #[.func (.yield (w.heap.size + 1)) #[] #[]] ++ lb, W1, ?_, ?_, ?_, ?_⟩
  · rw [<- hW1, hrec]; exact run_enterLoop_outer _ _ _ _ _
  · simp only [resolve, hg]
    simp [go_sem]
  · simp [invoke, go_sem, eg]
  refine (hseq (w.heap.size + 1) (fun k W => J k W ∧ W.heap[w.heap.size + 1]? = some (.loop (rec .ready none)) ∧ W.heap[w.heap.size]? = some (.deferred (some []))) (fun W => Jr W ∧ W.heap[w.heap.size + 1]? = some (.loop (rec .done (some .ret))) ∧ W.heap[w.heap.size]? = some (.deferred (some []))) W1 hb1 ?_ ?_ ⟨hJ1, hL1, hK1⟩).mono ?_
  · intro k A C hs hb
    have hl := (Array.getElem?_eq_some_iff.1 hs.2.1).1
    have hd := (Array.getElem?_eq_some_iff.1 hs.2.2).1
    exact ⟨hJ k _ _ hs.1 (hb.mono fun g h => .inl h), (hb.block _ hl fun h => by have := hI _ h; omega).trans hs.2.1, (hb.block _ hd fun h => by have := hI _ h; omega).trans hs.2.2⟩
  · rintro k y W ⟨hj, hl, hk⟩ hy1 hsz
    have hlt : w.heap.size + 1 < W.heap.size := (Array.getElem?_eq_some_iff.1 hl).1
    have hy := run_yield (P := P) (args := #[.string ⟨y.toArray⟩]) hl (by rw [hrec]; rfl)
    rw [hrec] at hy
    refine ⟨f, _, assign, body, hy, roundIn_of_wpIn trivial ?_⟩
    refine Go.wpIn_mono (hassign _ k y W hj hy1 (by omega)) ?_
    rintro e a2 W2 ⟨rfl, hn2, hk2⟩
    have hl2 : W2.heap[w.heap.size + 1]? = some (.loop (rec .ready none)) := (hk2.block _ (.inr (.inr rfl))).trans hl
    have hd2 : W2.heap[w.heap.size]? = some (.deferred (some [])) := (hk2.block _ (.inr (.inl rfl))).trans hk
    have hlt2 : w.heap.size + 1 < W2.heap.size := (Array.getElem?_eq_some_iff.1 hl2).1
    refine ⟨_, run_beginRound hl2 (by rw [hrec]), ?_⟩
    have hl3 : (W2.putObj (w.heap.size + 1) (.loop { rec .ready none with state := .busy })).heap[w.heap.size + 1]? = some (.loop { rec .ready none with state := .busy }) := World.putObj_heap_same hlt2
    have hd3 : (W2.putObj (w.heap.size + 1) (.loop { rec .ready none with state := .busy })).heap[w.heap.size]? = some (.deferred (some [])) := (World.putObj_heap_other (by omega)).trans hd2
    have hn3 : N k y a2 (W2.putObj (w.heap.size + 1) (.loop { rec .ready none with state := .busy })) := hN k y a2 _ _ hn2 (zct _ (.inr (.inr rfl)))
    have hp3 := grownBy_putObj' W2 (w.heap.size + 1) (.loop { rec .ready none with state := .busy })
    refine Go.wpIn_mono (hbody _ k y _ a2 hy1 (Nat.le_trans (by omega) hp3.size) hn3) ?_
    rintro e a3 W3 ⟨he, hk3⟩
    have hl4 : W3.heap[w.heap.size + 1]? = some (.loop { rec .ready none with state := .busy }) := (hk3.block _ (.inr (.inr rfl))).trans hl3
    have hd4 : W3.heap[w.heap.size]? = some (.deferred (some [])) := (hk3.block _ (.inr (.inl rfl))).trans hd3
    rcases he with ⟨rfl, hj3⟩ | ⟨rfl, hr3⟩
    · have hr := run_endRound (P := P) none hl4
      refine ⟨_, _, hr, .inl ⟨rfl, ⟨hJ _ _ _ hj3 (zct _ (.inr (.inr rfl))), ?_, (World.putObj_heap_other (by omega)).trans hd4⟩, ?_⟩⟩
      · rw [World.putObj_heap_same (Array.getElem?_eq_some_iff.1 hl4).1, hrec]
        rfl
      · refine ⟨?_, ?_, ?_, ?_, fun j hj => ?_⟩
        · exact (grownBy_putObj' W3 _ _).os.trans (hk3.os.trans (hp3.os.trans hk2.os))
        · exact (grownBy_putObj' W3 _ _).tape.trans (hk3.tape.trans (hp3.tape.trans hk2.tape))
        · exact (grownBy_putObj' W3 _ _).output.trans (hk3.output.trans (hp3.output.trans hk2.output))
        · exact Nat.le_trans (by rw [hs1]; exact hk3.size) (grownBy_putObj' W3 _ _).size
        · have hjl := hI j hj
          exact (World.putObj_heap_other (by omega)).trans ((hk3.block j (.inl hj)).trans ((World.putObj_heap_other (by omega)).trans (hk2.block j (.inl hj))))
    · have hr := run_endRound (P := P) (some .ret) hl4
      refine ⟨_, _, hr, .inr ⟨rfl, hJr _ _ hr3 (zct _ (.inr (.inr rfl))), ?_, (World.putObj_heap_other (by omega)).trans hd4⟩⟩
      rw [World.putObj_heap_same (Array.getElem?_eq_some_iff.1 hl4).1, hrec]
      rfl
  · rintro e W2 ⟨hv, ⟨hj, hl, hk⟩ | ⟨hj, hl, hk⟩⟩
    · refine ⟨hv, none, _, by have := run_endLoop (P := P) hl (by rw [hrec]; simp); rw [hrec] at this; exact this, hdone _ (hJ _ _ _ hj (zct _ (.inr (.inr rfl)))) ((World.putObj_heap_other (by omega)).trans hk)⟩
    · refine ⟨hv, some .ret, _, by have := run_endLoop (P := P) hl (by rw [hrec]; simp); rw [hrec] at this; exact this, ?_⟩
      exact zb4 (m := 0) (wpIn_ret (hret _ (hJr _ _ hj (zct _ (.inr (.inr rfl)))) ((World.putObj_heap_other (by omega)).trans hk)))
theorem zjN (gs gp gv : Nat) (s : List UInt8) (w : World) (hne : gs ≠ gp ∧ gs ≠ gv) (hlen : s.length ≤ 2000000)
    (hs : w.heap[gs]? = some (.cells #[.string ⟨s.toArray⟩] 9 (0, 0))) (hp : w.heap[gp]? = some (.cells #[.string ⟨#[10]⟩] 9 (0, 0))) (hv : w.heap[gv]? = some (.cells #[.int .i64 0] 3 (0, 0))) :
    zp2 Tryz.prog 1 145 #[.pointer (some ⟨gp, 0, none⟩), .pointer (some ⟨gs, 0, none⟩), .pointer (some ⟨gv, 0, none⟩)] (itI gs gp gv) (segs s) w := fun l J Jr W hW hJ hY h0 =>
  zls l gs gp gv s J Jr W hne hlen ((hW.block _ (Array.getElem?_eq_some_iff.1 hs).1).trans hs) ((hW.block _ (Array.getElem?_eq_some_iff.1 hp).1).trans hp) ((hW.block _ (Array.getElem?_eq_some_iff.1 hv).1).trans hv) hJ hY h0
end Go.Proofs.YtpeaigpfddalcaaGreatDoor
namespace Go.Proofs.YtpeaigpfddalcaaGreatDoor
open Go Go.RowKit
set_option linter.unusedSimpArgs false
set_option linter.unusedVariables false
set_option maxRecDepth 100000
noncomputable def zja (s p : List UInt8) : Bool := decide (p.length ≤ s.length) && eqb .str (s.take p.length) p
noncomputable def cPre : Ctr := { args := [.str, .str], pre := fun x => [List.length x.1 ≤ 2000000, List.length x.2.1 ≤ 2000000], res := .bool, own := none, out := fun x => zja x.1 x.2.1 }
theorem zlW : CtrOk Tryz.prog gmH 86 cPre := by
  refine zaq (K := gmK) zaj Tryz.func86 rfl rfl Tryz.call86 rfl (by decide) (by intro h; cases h) ?_
  rintro w0 X hX ⟨(s : List UInt8), (p : List UInt8), ⟨⟩⟩ hp
  obtain ⟨hs, hpl⟩ : s.length ≤ 2000000 ∧ p.length ≤ 2000000 := hp
  change AWP _ _ _ _ _ ⟨[(0, ⟨.str, s⟩), (1, ⟨.str, p⟩)], [], 0⟩ _
  (repeat (first | refine zae ?_ | refine zac ?_ | refine zab ?_ | refine zad ?_)); refine zaa hX zaj rfl ?_ ?_
  · trivial
  (repeat (first | refine zae ?_ | refine zac ?_ | refine zab ?_ | refine zad ?_)); refine zaa hX zaj rfl ?_ ?_
  · have hd : decide (((p.length : Nat) : Int) ≤ ((s.length : Nat) : Int)) = true -> ((p.length : Nat) : Int) ≤ ((s.length : Nat) : Int) := of_decide_eq_true
    exact ⟨fun h => h, fun h => ⟨h, h, Int.natCast_nonneg _, hd h⟩, fun h => ⟨h, h⟩, fun h => h⟩
  refine AWP.ret ⟨.inr rfl, zay rfl trivial rfl rfl ?_⟩
  show (bif decide (((p.length : Nat) : Int) ≤ ((s.length : Nat) : Int)) then eqb .str (List.take (((p.length : Nat) : Int)).toNat s) p else false) = (decide (p.length ≤ s.length) && eqb .str (s.take p.length) p)
  rw [zca, dNat, Int.toNat_natCast]
noncomputable def kPx : Kn := { gmK with C := [(86, cPre)] }
theorem znw : KnOk Tryz.prog gmH kPx := zaj.with (.cons zlW .nil)
theorem znD : CtrOk Tryz.prog gmH 51 cPre := by
  refine zaq (K := kPx) znw Tryz.func51 rfl rfl Tryz.call51 rfl (by decide) (by intro h; cases h) ?_
  rintro w0 X hX ⟨(s : List UInt8), (p : List UInt8), ⟨⟩⟩ hp
  obtain ⟨hs, hpl⟩ : s.length ≤ 2000000 ∧ p.length ≤ 2000000 := hp
  change AWP _ _ _ _ _ ⟨[(0, ⟨.str, s⟩), (1, ⟨.str, p⟩)], [], 0⟩ _
  (repeat (first | refine zae ?_ | refine zac ?_ | refine zab ?_ | refine zad ?_)); refine zaa hX znw rfl ?_ ?_
  · trivial
  (repeat (first | refine zae ?_ | refine zac ?_ | refine zab ?_ | refine zad ?_)); refine zaa hX znw rfl ?_ ?_
  · exact ⟨hs, hpl⟩
  exact AWP.ret ⟨.inr rfl, zay rfl trivial rfl rfl rfl⟩
abbrev De := List UInt8 × List Nd × Unit
abbrev zmL (j : Nat) : OObj := .hbox 29 [⟨.obuf de, j⟩]
abbrev tD : TypeId := 29
def libE (l : List UInt8) (fr : Int) (acc : List De) : Owns := [(0, some (.hbox tD [⟨.lit, .slice none 0 0⟩])), (1, some (.box i64 (0 : Int))), (2, some (.box i64 (0 : Int))), (3, some (zmL 6)), (4, some (.box i64 fr)), (5, some (.box .str l)), (6, some (.buf 37 de acc))]
def kLb : Kn := { gmK with H := [tD] }
theorem znx : KnOk Tryz.prog gmH kLb := ⟨zgH, zgG, CsOk.nil, zhA, RsOk.nil⟩
def zdC (l : List UInt8) (k : Int) : Except (Int × Int) De := (gDef l (zaW l, 0) k).map fun r => (r.1, r.2.flat 0, ())
theorem zl1 (l : List UInt8) (k : Int) : zj8 l (zaW l, 0) [] k = toX id (zdC l k) := by
  unfold zj8 zdC
  cases gDef l (zaW l, 0) k <;> rfl
def NLib (l : List UInt8) (fr : Int) (acc : List De) (r : Except (Int × Int) Unit) (σ : AS) : Prop := (∃ d, zdC l ((acc.length : Nat) : Int) = .ok d ∧ r = .ok () ∧ Fit σ ⟨[], libE l fr (acc ++ [d]), 7⟩) ∨ ∃ er, zdC l ((acc.length : Nat) : Int) = .error er ∧ r = .error er ∧ Fit σ ⟨[], libE l fr acc, 7⟩
set_option maxHeartbeats 4000000 in
theorem zo2 {w1 : World} {X : Ownr} {l : List UInt8} {fr : Int} {acc : List De} (hl : l.length ≤ 4000) (ha : acc.length ≤ 1000000) (hX : X.Ok w1) (hG : X.G = gmH) (hK : X.K = 6) (hρ : X.ρ = none) (hD : X.D = []) (hinv : ∀ ty, ginv w1 X.R ty) :
    AWP Tryz.prog w1 X Tryz.f54.ntmps (Tryz.f54.body.getD .skip) ⟨[(0, ⟨.hptr, ((3 : Nat), (0 : Nat))⟩), (1, ⟨.optr .str, ⟨5, .str, .here⟩⟩)], libE l fr acc, 7⟩ (fun e σ => ((e = .normal ∨ e = .ret) ∧ NLib l fr acc (.ok ()) σ) ∨ ∃ er, e = .panic [{ v := pvS er, recovered := false }] ∧ NLib l fr acc (.error er) σ) := by
  obtain ⟨G, O, K, fix, D, ρ, B⟩ := X
  obtain rfl : G = gmH := hG
  obtain rfl : K = 6 := hK
  obtain rfl : ρ = none := hρ
  obtain rfl : D = [] := hD
  have hI := fun ty => zaD (ty := ty) hX rfl (hinv ty) (ty' := ty)
  have hl1 : l.length ≤ 100000 := by omega
  have hcap : acc.length + 1 ≤ 1000000000 := by omega
  have hg0 : GOk l (zaW l, 0) := by
    have := zf2 (s := l)
    unfold zg7 at this
    rwa [zkA] at this
  have hok : pOk (l, zaW l, [], 0, ()) := ⟨hg0, hl1⟩
  have hfew : few (l, zaW l, [], 0, ()) := Int.le_refl 0
  have hx := zl1 l ((acc.length : Nat) : Int)
  unfold libE
  refine AWP.ordersA dM 9 rfl (by kernel_rfl) ?_
  cases hr : zdC l ((acc.length : Nat) : Int) with
  | ok d =>
    rw [hr] at hx
    have hx : zj8 l (zaW l, 0) [] ((acc.length : Nat) : Int) = .ok d := hx
    repeat' (first
      | exact AllN.nil
      | refine AllN.cons ⟨_, rfl, ?_⟩ ?_
      | refine StepA.eval hX znx rfl trivial ?_
      | refine StepA.fresh hX zdJ rfl rfl rfl rfl rfl rfl (by exact trivial) (by exact hl1) (by exact ⟨rfl, rfl⟩) rfl rfl ?_
      | refine StepA.eval hX znx rfl hcap ?_
      | refine StepA.conv (Sim.nilLeaf 7 6 73 nd rfl rfl rfl) (StepA.giveO hX ze3 rfl rfl rfl rfl rfl rfl rfl rfl rfl rfl rfl rfl (by exact trivial) (by exact ⟨hok, hfew⟩) (by exact hI 139) rfl rfl (by exact hx) ?_)
      | (refine OrdA.last ?_; exact .inl ⟨.inl rfl, .inl ⟨d, hr, rfl, trivial, ⟨rfl, rfl, rfl, rfl, rfl, rfl, rfl, trivial⟩, rfl, rfl⟩⟩))
  | error er =>
    rw [hr] at hx
    have hx : zj8 l (zaW l, 0) [] ((acc.length : Nat) : Int) = .error (pvS er) := hx
    repeat' (first
      | exact AllN.nil
      | refine AllN.cons ⟨_, rfl, ?_⟩ ?_
      | refine StepA.eval hX znx rfl trivial ?_
      | refine StepA.fresh hX zdJ rfl rfl rfl rfl rfl rfl (by exact trivial) (by exact hl1) (by exact ⟨rfl, rfl⟩) rfl rfl ?_
      | refine StepA.conv (Sim.nilLeaf 7 6 73 nd rfl rfl rfl) (StepA.giveE hX ze3 rfl rfl rfl rfl rfl rfl rfl rfl rfl rfl rfl rfl (by exact trivial) (by exact ⟨hok, hfew⟩) (by exact hI 139) rfl rfl (by exact hx) ?_)
      | exact .inr ⟨er, rfl, .inr ⟨er, hr, rfl, trivial, ⟨rfl, rfl, rfl, rfl, rfl, rfl, rfl, trivial⟩, rfl, rfl⟩⟩)
def zjk : List De -> List UInt8 -> List UInt8 × Int
  | [], acc => if 1048576 < acc.length then ([], 2) else (acc, 0)
  | d :: r, acc =>
    if 32 < d.1.length then ([], 2)
    else if zav d.1 = 0 ∨ zav d.1 < d.1.length then ([], 1)
    else if (fmtS d.2.1).2 ≠ 0 then ([], (fmtS d.2.1).2)
    else if 4000 < (d.1 ++ [32, 61, 32] ++ (fmtS d.2.1).1).length then ([], 2)
    else zjk r (acc ++ (d.1 ++ [32, 61, 32] ++ (fmtS d.2.1).1 ++ [10]))
def zbb (l : List De) : List UInt8 × Int := if 4096 < l.length then ([], 2) else zjk l []
theorem zpk (r : List Nd) : (fmtS r).1.length ≤ 4000 := by
  unfold fmtS
  split
  · split
    · exact Nat.zero_le _
    · show (zc5 r).text.length ≤ 4000
      omega
  · exact Nat.zero_le _
section
variable {w0 : World} {X : Ownr} {n : Nat} {Q : Exit -> AS -> Prop} {ops : Array Oper} {F : Frame} {E : Owns} {nx : Nat}
theorem AL.newBd (hX : X.Ok w0) {o : Oper} {rest : List Oper} (ho : o.op = .alloc 105) (hgd : o.guard = none) {d : Nat} (hd : o.dst = some d) (hdn : Nat.blt d n = true)
    (h : AL Tryz.prog w0 X n ops rest ⟨(d, ⟨.hptr, (nx, (0 : Nat))⟩) :: F, (nx, some (.hbox 105 [⟨.lit, .pointer none⟩, ⟨.lit, .slice none 0 0⟩])) :: E, nx + 1⟩ Q) : AL Tryz.prog w0 X n ops (o :: rest) ⟨F, E, nx⟩ Q := by
  refine AL.hand hgd (fun c e => by rw [ho] at e; cases e) fun β a w hs => ?_
  have hlt : d < n := by simpa using hdn
  refine zbq (u := .pointer (some ⟨w.heap.size, 0, none⟩)) (w' := w.alloc (.cells #[.pointer none, .slice none 0 0] 105 (0, 0))) ?_ ?_
  · unfold execOp
    simp [ho, Instr.alloc, Tryz.zeroValue105, newVar, newRow, Value.cells, go_sem]
  · rw [hd]
    obtain ⟨β', h1⟩ := hs.make hX ((Below.refl _ w).alloc (Nat.le_refl _) (.cells #[.pointer none, .slice none 0 0] 105 (0, 0))) (bv := .pointer (some ⟨w.heap.size, 0, none⟩)) (o := .hbox 105 [⟨.lit, .pointer none⟩, ⟨.lit, .slice none 0 0⟩])
      (fun O β' _ => ⟨w.heap.size, [.pointer none, .slice none 0 0], rfl, Nat.zero_le _, World.alloc_heap_new w _, ⟨.pointer none, [.slice none 0 0], rfl, rfl, rfl, ⟨.slice none 0 0, [], rfl, rfl, rfl, rfl⟩⟩⟩) (fun g hg => by cases hg; exact Nat.le_refl _) (v := ⟨.hptr, (nx, (0 : Nat))⟩) (u := .pointer (some ⟨w.heap.size, 0, none⟩))
      (fun O β' hb => ⟨w.heap.size, by show zag (β' nx) = _; rw [show β' nx = _ from hb]; rfl, rfl⟩) (Nat.le_refl _) hlt (fun vs e v hv => by
        cases e
        rcases List.mem_cons.1 hv with rfl | hv
        · exact Nat.zero_le _
        · rw [List.mem_singleton.1 hv]; exact Nat.zero_le _)
    exact ⟨_, β', h1, h⟩
end
@[reducible] def cStr0 : HCtr := hBl .unit [105] [] .str (fun _ _ => []) fun x _ => .ok (x.2.1, x)
theorem zlY {R : Nat -> Prop} {w w' : World} (h : Below w.heap.size w w') : Kept R w w' := ⟨h.os, h.tape, h.output, h.size, fun k hk _ => h.block k hk⟩
theorem zlq : ze9 Tryz.prog gmH 62 cStr0 (fun x _ => .ok x.2.1) := by
  refine ⟨Tryz.call62, zb8 rfl, fun w O g cs ty x xs vs b hO hgb hg hx hbuf hrep hpre hinv hG => ?_⟩
  by_cases h0 : x.2.1 = []
  · obtain ⟨xb, (xl : List UInt8), ⟨⟩⟩ := x
    obtain rfl : xl = [] := h0
    have hvs : vs = [] := hrep
    subst hvs
    obtain rfl : ty = 105 := List.mem_singleton.1 hinv.2
    rw [zm9] at hx
    obtain ⟨u, r, rfl, hu1, hu, hr⟩ := hx
    obtain ⟨v, r, rfl, hv1, hv, hr⟩ := hr
    have hv : v = b := hv
    subst hv
    have hr : r = [] := hr
    subst hr
    obtain ⟨cells, k1, k2, k3⟩ := hbuf
    have k1 := zfh k1
    subst k1
    have fin : ∀ {e : Ending} {w' : World}, (e = .returned (.string ⟨#[]⟩) ∧ Below w.heap.size w w') -> Kept (fun h => h = g ∨ zag v = some h) w w' ∧ LEnd cStr0 w w' O e (.ok ([] : List UInt8)) := fun {e w'} h => ⟨zlY h.2, _, h.1, .inr fun β => ⟨rfl, Nat.zero_le _⟩⟩
    rcases k2.2 with ⟨rfl, _⟩ | ⟨g', cap, cur, rfl, _, hg', hnc, hcm, hcs, htake⟩
    · refine (Any.Builder_String_nil Tryz.lays169 Tryz.Builder_Extra_169 w.heap.size g u w hg).mono ?_
      exact fun e w' h => fin h
    · by_cases hc0 : cap = 0
      · subst hc0
        refine (Any.Builder_String_noroom Tryz.lays169 Tryz.Builder_Extra_169 w.heap.size g g' u cur w (Nat.le_refl _) hg hg').mono ?_
        exact fun e w' h => fin h
      · refine (Any.Builder_String_room Tryz.lays169 Tryz.Builder_Extra_169 w.heap.size g g' cap u w hc0 hg).mono ?_
        exact fun e w' h => fin h
  · exact (ziD .unit rfl [105]).2.2 w O g cs ty x xs vs b hO hgb hg hx hbuf hrep h0 hinv hG
def zDe : De := ([], [], ())
def cFmtL : Ctr := { args := [.slice de], pre := fun _ => [], res := .tup .str (.tup i64 .unit), own := none, out := fun x => ((zbb x.1).1, (zbb x.1).2, ()) }
def kFb : Kn := { gmK with C := [(65, zig), (24, cFmt)] }
theorem zaV : KnOk Tryz.prog gmH kFb := zaj.with (.cons zhf.lift <| .cons zjj .nil)
def hFb : List (FuncId × HCtr) := [(66, cWSB), (61, zl7 .unit [105])]
theorem zpU : HsOk Tryz.prog gmH hFb := .cons zlk <| .cons zqH .nil
def bdE (b : Bool) (acc : List UInt8) : Owns := [(0, some (.hbox 105 [adV 0 b, ⟨.obuf u8, (1 : Nat)⟩])), (1, some (.buf 5 u8 acc))]
set_option maxHeartbeats 1000000 in
theorem znI : CtrOk Tryz.prog gmH 26 cFmtL := by
  refine zaq (K := kFb) zaV Tryz.func26 rfl rfl Tryz.call26 rfl (by decide) (by intro h; cases h) ?_
  rintro w0 X hX ⟨(l : List De), _⟩ hp
  change AWP _ _ _ _ _ ⟨[(0, ⟨.slice de, l⟩)], [], 0⟩ _
  refine AWP.len 0 rfl fun hl => ?_
  unfold maxLen at hl
  have hI : ∀ w R, (∀ g, R g -> w0.heap.size ≤ g ∨ (Ownr.plain gmH X).R g) -> (Ownr.plain gmH X).G w -> bInv .unit [105] w R 105 := fun w R hR hw => ⟨zaD (ty := 105) hX rfl (zhB hX) (ty' := 105) w R hR hw, List.mem_singleton.2 rfl⟩
  (repeat (first | refine zae ?_ | refine zac ?_ | refine zab ?_ | refine zad ?_)); refine zaa hX zaV rfl ?_ ?_
  · trivial
  (repeat (first | refine zae ?_ | refine zac ?_ | refine zab ?_ | refine zad ?_)); refine zaa hX zaV rfl ?_ ?_
  · trivial
  refine zai rfl (fun hb => ?_) (fun hb => ?_)
  · have hb : decide (((l.length : Nat) : Int) > 4096) = true := hb
    have hb := of_decide_eq_true hb
    (repeat (first | refine zae ?_ | refine zac ?_ | refine zak ?_ | refine zad ?_ | refine zab ?_ | refine zaa hX zaV rfl trivial ?_ | refine zaa hX zaV rfl id ?_ | refine zaa hX zaV rfl ⟨id, id⟩ ?_))
    refine AWP.ret ⟨.inr rfl, zba (by decide) rfl rfl trivial ?_⟩
    show (([] : List UInt8), (2 : Int), ()) = ((zbb l).1, (zbb l).2, ())
    unfold zbb
    rw [if_pos (by omega)]
  have hb : decide (((l.length : Nat) : Int) > 4096) = false := hb
  have hb := of_decide_eq_false hb
  have hS : zbb l = zjk l [] := by unfold zbb; rw [if_neg (by omega)]
  refine zac ?_
  refine zae ?_
  refine zah ?_
  refine AL.newBd hX rfl rfl rfl rfl ?_
  refine AL.nilLeaf 0 1 5 u8 rfl rfl rfl ?_
  refine AL.nil ?_
  (repeat (first | refine zae ?_ | refine zac ?_ | refine zab ?_ | refine zad ?_)); refine zaa hX zaV rfl ?_ ?_
  · trivial
  (repeat (first | refine zae ?_ | refine zac ?_ | refine zab ?_ | refine zad ?_));
  refine AWP.loop (ι := Nat × List UInt8) (fun p => ⟨[(0, ⟨.slice de, l⟩), (4, ⟨.hptr, ((0 : Nat), (0 : Nat))⟩), (14, ⟨.slice de, l⟩), (15, ⟨i64, ((l.length : Nat) : Int)⟩), (16, ⟨i64, (p.1 : Int)⟩)], bdE (decide (0 < p.1)) p.2, 2⟩) (fun p => p.1 ≤ l.length ∧ zbb l = zjk (l.drop p.1) p.2 ∧ p.2.length ≤ 4001 * p.1) (fun p => l.length - p.1) (0, []) ⟨Nat.zero_le _, hS, Nat.zero_le _⟩ ⟨⟨rfl, rfl, rfl, rfl, rfl, trivial⟩, ⟨rfl, rfl, trivial⟩, rfl, rfl⟩ ?_
  rintro ⟨i, acc⟩ ⟨hi, hR, hal⟩
  have hi : i ≤ l.length := hi
  have hR : zbb l = zjk (l.drop i) acc := hR
  have hal : acc.length ≤ 4001 * i := hal
  unfold bdE
  (repeat (first | refine zae ?_ | refine zac ?_ | refine zab ?_ | refine zad ?_)); refine zaa hX zaV rfl ?_ ?_
  · trivial
  refine zae ?_
  refine zai rfl (fun hb => ?_) (fun hb => ?_)
  · have hb2 : decide ((i : Int) < (l.length : Nat)) = true := hb
    have hb2 := of_decide_eq_true hb2
    have hlt : i < l.length := by omega
    have z0 : (0 : Int) ≤ (i : Int) := by omega
    have hgd : l.getD (i : Int).toNat zDe = l[i] := zaR hlt
    rw [List.drop_eq_getElem_cons hlt, zjk, <- hgd] at hR
    generalize hbq : decide (0 < i) = b
    (repeat (first | refine zae ?_ | refine zac ?_ | refine zab ?_ | refine zad ?_)); refine zaa hX zaV rfl ?_ ?_
    · exact ⟨z0, hb2⟩
    generalize hD : l.getD (i : Int).toNat zDe = D at *
    obtain ⟨(nm : List UInt8), (rl : List Nd), ⟨⟩⟩ := D
    refine zan (σ' := ⟨[(0, ⟨.slice de, l⟩), (4, ⟨.hptr, ((0 : Nat), (0 : Nat))⟩), (14, ⟨.slice de, l⟩), (15, ⟨i64, ((l.length : Nat) : Int)⟩), (16, ⟨i64, (i : Int)⟩), (6, ⟨.optr de, ⟨2, de, .here⟩⟩)], (2, some (.box de (nm, rl, ()))) :: bdE b acc, 3⟩) ⟨⟨rfl, rfl, rfl, rfl, rfl, rfl, trivial⟩, ⟨ze5 hD, rfl, rfl, trivial⟩, rfl, by cases b <;> rfl⟩ ?_
    have hR : zbb l = if 32 < nm.length then ([], 2) else if zav nm = 0 ∨ zav nm < nm.length then ([], 1) else if (fmtS rl).2 ≠ 0 then ([], (fmtS rl).2) else if 4000 < (nm ++ [32, 61, 32] ++ (fmtS rl).1).length then ([], 2) else zjk (l.drop (i + 1)) (acc ++ (nm ++ [32, 61, 32] ++ (fmtS rl).1 ++ [10])) := hR
    unfold bdE
    (repeat (first | refine zae ?_ | refine zac ?_ | refine zab ?_ | refine zad ?_)); refine zaa hX zaV rfl ?_ ?_
    · trivial
    (repeat (first | refine zae ?_ | refine zac ?_ | refine zab ?_ | refine zad ?_)); refine zaa hX zaV rfl ?_ ?_
    · trivial
    refine zai rfl (fun hc => ?_) (fun hc => ?_)
    · have hc : decide (((nm.length : Nat) : Int) > 32) = true := hc
      have hc := of_decide_eq_true hc
      (repeat (first | refine zae ?_ | refine zac ?_ | refine zak ?_ | refine zad ?_ | refine zab ?_ | refine zaa hX zaV rfl trivial ?_ | refine zaa hX zaV rfl id ?_ | refine zaa hX zaV rfl ⟨id, id⟩ ?_))
      refine AWP.ret ⟨.inr rfl, zba (by decide) rfl rfl trivial ?_⟩
      show (([] : List UInt8), (2 : Int), ()) = ((zbb l).1, (zbb l).2, ())
      rw [hR, if_pos (by omega)]
    have hc : decide (((nm.length : Nat) : Int) > 32) = false := hc
    have hc := of_decide_eq_false hc
    (repeat (first | refine zae ?_ | refine zac ?_ | refine zab ?_ | refine zad ?_)); refine zaa hX zaV rfl ?_ ?_
    · repeat' (first | exact trivial | assumption | (refine ⟨?_, ?_⟩) | (intro _) | exact Nat.le_of_ble_eq_true rfl | exact Int.natCast_nonneg _ | (simp_all [allP]; done))
    have hq : (bif ((zav nm : Nat) : Int) == 0 then true else decide (((zav nm : Nat) : Int) < ((nm.length : Nat) : Int))) = decide (zav nm = 0 ∨ zav nm < nm.length) := by
      rw [b_or, Bool.eq_iff_iff, Bool.or_eq_true, decide_eq_true_iff, decide_eq_true_iff, beq_iff_eq]
      omega
    refine zai rfl (fun hd => ?_) (fun hd => ?_)
    · have hd := hq.symm.trans hd
      have hd := of_decide_eq_true hd
      (repeat (first | refine zae ?_ | refine zac ?_ | refine zak ?_ | refine zad ?_ | refine zab ?_ | refine zaa hX zaV rfl trivial ?_ | refine zaa hX zaV rfl id ?_ | refine zaa hX zaV rfl ⟨id, id⟩ ?_))
      refine AWP.ret ⟨.inr rfl, zba (by decide) rfl rfl trivial ?_⟩
      show (([] : List UInt8), (1 : Int), ()) = ((zbb l).1, (zbb l).2, ())
      rw [hR, if_neg (by omega), if_pos hd]
    have hd := hq.symm.trans hd
    have hd := of_decide_eq_false hd
    refine zac ?_
    (repeat (first | refine zae ?_ | refine zac ?_ | refine zab ?_ | refine zad ?_)); refine zaa hX zaV rfl ?_ ?_
    · trivial
    refine zan (σ' := ⟨[(0, ⟨.slice de, l⟩), (4, ⟨.hptr, ((0 : Nat), (0 : Nat))⟩), (14, ⟨.slice de, l⟩), (15, ⟨i64, ((l.length : Nat) : Int)⟩), (16, ⟨i64, (i : Int)⟩), (6, ⟨.optr de, ⟨2, de, .here⟩⟩), (8, ⟨.str, (fmtS rl).1⟩), (9, ⟨i64, (fmtS rl).2⟩)], (2, some (.box de (nm, rl, ()))) :: bdE b acc, 3⟩) ⟨⟨rfl, rfl, rfl, rfl, rfl, rfl, rfl, rfl, trivial⟩, ⟨rfl, rfl, rfl, trivial⟩, rfl, by cases b <;> rfl⟩ ?_
    have hfl := zpk rl
    generalize (fmtS rl).1 = T at *
    generalize (fmtS rl).2 = ec at *
    unfold bdE
    (repeat (first | refine zae ?_ | refine zac ?_ | refine zab ?_ | refine zad ?_)); refine zaa hX zaV rfl ?_ ?_
    · trivial
    refine zai rfl (fun he => ?_) (fun he => ?_)
    · have he : (ec != 0) = true := he
      have he := bne_iff_ne.1 he
      (repeat (first | refine zae ?_ | refine zac ?_ | refine zak ?_ | refine zad ?_ | refine zab ?_ | refine zaa hX zaV rfl trivial ?_ | refine zaa hX zaV rfl id ?_ | refine zaa hX zaV rfl ⟨id, id⟩ ?_))
      refine AWP.ret ⟨.inr rfl, zba (by decide) rfl rfl trivial ?_⟩
      show (([] : List UInt8), ec, ()) = ((zbb l).1, (zbb l).2, ())
      rw [hR, if_neg (by omega), if_neg hd, if_pos he]
    have he : (ec != 0) = false := he
    have he : ¬ ec ≠ 0 := fun h => by rw [bne_iff_ne.2 h] at he; cases he
    refine zac ?_
    have t1 : nm.length + 3 ≤ maxLen := by unfold maxLen; omega
    have t2 : List.length (nm ++ [32, 61, 32] : List UInt8) + T.length ≤ maxLen := by rw [List.length_append]; show nm.length + 3 + _ ≤ _; unfold maxLen; omega
    have t3 : (nm ++ [32, 61, 32] ++ T : List UInt8).length = nm.length + 3 + T.length := by rw [List.length_append, List.length_append]; rfl
    (repeat (first | refine zae ?_ | refine zac ?_ | refine zab ?_ | refine zad ?_)); refine zaa hX zaV rfl ?_ ?_
    · exact ⟨t1, t2⟩
    refine zan (σ' := ⟨[(0, ⟨.slice de, l⟩), (4, ⟨.hptr, ((0 : Nat), (0 : Nat))⟩), (14, ⟨.slice de, l⟩), (15, ⟨i64, ((l.length : Nat) : Int)⟩), (16, ⟨i64, (i : Int)⟩), (10, ⟨.str, nm ++ [32, 61, 32] ++ T⟩)], bdE b acc, 3⟩) ⟨⟨rfl, rfl, rfl, rfl, rfl, rfl, trivial⟩, ⟨rfl, rfl, trivial⟩, rfl, by cases b <;> rfl⟩ ?_
    generalize (nm ++ [32, 61, 32] ++ T : List UInt8) = L at hR t3
    unfold bdE
    (repeat (first | refine zae ?_ | refine zac ?_ | refine zab ?_ | refine zad ?_)); refine zaa hX zaV rfl ?_ ?_
    · trivial
    refine zai rfl (fun hf => ?_) (fun hf => ?_)
    · have hf : decide (((L.length : Nat) : Int) > 4000) = true := hf
      have hf := of_decide_eq_true hf
      (repeat (first | refine zae ?_ | refine zac ?_ | refine zak ?_ | refine zad ?_ | refine zab ?_ | refine zaa hX zaV rfl trivial ?_ | refine zaa hX zaV rfl id ?_ | refine zaa hX zaV rfl ⟨id, id⟩ ?_))
      refine AWP.ret ⟨.inr rfl, zba (by decide) rfl rfl trivial ?_⟩
      show (([] : List UInt8), (2 : Int), ()) = ((zbb l).1, (zbb l).2, ())
      rw [hR, if_neg (by omega), if_neg hd, if_neg he, if_pos (by omega)]
    have hf : decide (((L.length : Nat) : Int) > 4000) = false := hf
    have hf := of_decide_eq_false hf
    rw [if_neg (by omega), if_neg hd, if_neg he, if_neg (by omega)] at hR
    refine zac ?_
    have hl1 : (L ++ [10] : List UInt8).length = L.length + 1 := by rw [List.length_append]; rfl
    have t4 : L.length + 1 ≤ maxLen := by unfold maxLen; omega
    have t5 : acc.length + List.length (L ++ [10] : List UInt8) ≤ 1000000000 := by omega
    cases b
    all_goals
      (repeat (first | refine zae ?_ | refine zac ?_ | refine zab ?_ | refine zad ?_)); refine zah ?_
      refine AL.own 2 hX zaV zpU rfl t4 rfl rfl t5 hI ?_
      refine AL.nil ?_
      refine zan (σ' := ⟨[(0, ⟨.slice de, l⟩), (4, ⟨.hptr, ((0 : Nat), (0 : Nat))⟩), (14, ⟨.slice de, l⟩), (15, ⟨i64, ((l.length : Nat) : Int)⟩), (16, ⟨i64, (i : Int)⟩)], [(0, some (.hbox 105 [adV 0 true, ⟨.obuf u8, (1 : Nat)⟩])), (1, some (.buf 5 u8 (acc ++ (L ++ [10]))))], 3⟩) ⟨⟨rfl, rfl, rfl, rfl, rfl, trivial⟩, ⟨rfl, rfl, trivial⟩, rfl, rfl⟩ ?_
      (repeat (first | refine zae ?_ | refine zac ?_ | refine zab ?_ | refine zad ?_)); refine zaa hX zaV rfl ?_ ?_
      · exact zaT (by omega)
      refine ⟨(i + 1, acc ++ (L ++ [10])), ⟨hlt, hR, ?_⟩, by show l.length - (i + 1) < l.length - i; omega, ⟨rfl, rfl, rfl, rfl, zdA _, trivial⟩, ⟨?_, rfl, trivial⟩, rfl, ?_⟩
      · show List.length (acc ++ (L ++ [10]) : List UInt8) ≤ 4001 * (i + 1)
        rw [List.length_append]; omega
      · rw [show decide (0 < (i + 1, acc ++ (L ++ [10])).1) = true from decide_eq_true (Nat.succ_pos _)]; rfl
      · rw [show decide (0 < (i + 1, acc ++ (L ++ [10])).1) = true from decide_eq_true (Nat.succ_pos _)]; rfl
  · have hb2 : decide ((i : Int) < (l.length : Nat)) = false := hb
    have hb2 := of_decide_eq_false hb2
    obtain rfl : i = l.length := by omega
    rw [List.drop_length, zjk] at hR
    generalize decide (0 < l.length) = b
    refine zad ?_
    refine zan (σ' := ⟨[(4, ⟨.hptr, ((0 : Nat), (0 : Nat))⟩)], bdE b acc, 2⟩) ⟨⟨rfl, trivial⟩, ⟨rfl, rfl, trivial⟩, rfl, by cases b <;> rfl⟩ ?_
    unfold bdE
    cases b
    all_goals
      (repeat (first | refine zae ?_ | refine zac ?_ | refine zab ?_ | refine zad ?_)); refine zah ?_
      refine AL.own 0 hX zaV zpU rfl trivial rfl rfl trivial hI ?_
      refine AL.all hX zaV rfl trivial ?_
      refine zai rfl (fun hc => ?_) (fun hc => ?_)
      · have hc : decide (((acc.length : Nat) : Int) > 1048576) = true := hc
        have hc := of_decide_eq_true hc
        (repeat (first | refine zae ?_ | refine zac ?_ | refine zak ?_ | refine zad ?_ | refine zab ?_ | refine zaa hX zaV rfl trivial ?_ | refine zaa hX zaV rfl id ?_ | refine zaa hX zaV rfl ⟨id, id⟩ ?_))
        refine AWP.ret ⟨.inr rfl, zba (by decide) rfl rfl trivial ?_⟩
        show (([] : List UInt8), (2 : Int), ()) = ((zbb l).1, (zbb l).2, ())
        rw [hR, if_pos (by omega)]
      · have hc : decide (((acc.length : Nat) : Int) > 1048576) = false := hc
        have hc := of_decide_eq_false hc
        refine zac ?_
        (repeat (first | refine zae ?_ | refine zac ?_ | refine zab ?_ | refine zad ?_)); refine zah ?_
        refine AL.give hX zlq rfl rfl rfl rfl rfl rfl rfl rfl rfl rfl rfl rfl trivial trivial hI rfl rfl ?_
        show AL _ _ _ _ _ _ _ _
        refine AL.all hX zaV rfl trivial ?_
        refine AWP.ret ⟨.inr rfl, zba (by decide) rfl rfl trivial ?_⟩
        show (acc, (0 : Int), ()) = ((zbb l).1, (zbb l).2, ())
        rw [hR, if_neg (by omega)]
noncomputable def eqN (a b : Nd) : Bool := eqb nd a b
theorem zke {a b : Nd} : eqN a b = true ↔ a = b := zbc
theorem zgO {a b : Nd} : eqN a b = false ↔ a ≠ b := by rw [<- Bool.not_eq_true, zke]
noncomputable def zpX : Ctr := { args := [nd, nd], pre := fun _ => [], res := .bool, own := none, out := fun x => eqN x.1 x.2.1 }
theorem eqb_ne (x y : List UInt8) : (!eqb .str x y) = !decide (x = y) := by rw [zdk]
theorem zoD : CtrOk Tryz.prog gmH 49 zpX := by
  refine zaq (K := gmK) zaj Tryz.func49 rfl rfl Tryz.call49 rfl (by decide) (by intro h; cases h) ?_
  rintro w0 X hX ⟨(a : Nd), (b : Nd), _⟩ hp
  change AWP _ _ _ _ _ ⟨[(0, ⟨nd, a⟩), (1, ⟨nd, b⟩)], [], 0⟩ _
  (repeat (first | refine zae ?_ | refine zac ?_ | refine zab ?_ | refine zad ?_)); refine zaa hX zaj rfl ?_ ?_
  · trivial
  (repeat (first | refine zae ?_ | refine zac ?_ | refine zab ?_ | refine zad ?_)); refine zaa hX zaj rfl ?_ ?_
  · repeat' (first | exact trivial | assumption | (refine ⟨?_, ?_⟩) | (intro _) | exact Nat.le_of_ble_eq_true rfl | exact Int.natCast_nonneg _ | (simp_all [allP]; done))
  obtain ⟨a1, a2, a3, a4, a5, a6, (la : List Int), a8, ⟨⟩⟩ := a
  obtain ⟨b1, b2, b3, b4, b5, b6, (lb : List Int), b8, ⟨⟩⟩ := b
  have ht : (bif (bif (bif (bif (bif (bif (bif a1 != b1 then true else a2 != b2) then true else a3 != b3) then true else a4 != b4) then true else a5 != b5) then true else a6 != b6) then true else !eqb .str a8 b8) then true else ((la.length : Nat) : Int) != ((lb.length : Nat) : Int)) = true ↔ ¬ (a1 = b1 ∧ a2 = b2 ∧ a3 = b3 ∧ a4 = b4 ∧ a5 = b5 ∧ a6 = b6 ∧ a8 = b8 ∧ la.length = lb.length) := by
    rw [eqb_ne]
    simp only [b_or, Bool.or_eq_true, bne_iff_ne, Bool.not_eq_true', decide_eq_false_iff_not]
    constructor
    · rintro (((((((h | h) | h) | h) | h) | h) | h) | h) ⟨x1, x2, x3, x4, x5, x6, x7, x8⟩
      · exact h x1
      · exact h x2
      · exact h x3
      · exact h x4
      · exact h x5
      · exact h x6
      · exact h x7
      · exact h (by rw [x8])
    · intro h
      by_cases x1 : a1 = b1
      · by_cases x2 : a2 = b2
        · by_cases x3 : a3 = b3
          · by_cases x4 : a4 = b4
            · by_cases x5 : a5 = b5
              · by_cases x6 : a6 = b6
                · by_cases x7 : a8 = b8
                  · refine .inr fun e => h ⟨x1, x2, x3, x4, x5, x6, x7, by omega⟩
                  · exact .inl (.inr x7)
                · exact .inl (.inl (.inr x6))
              · exact .inl (.inl (.inl (.inr x5)))
            · exact .inl (.inl (.inl (.inl (.inr x4))))
          · exact .inl (.inl (.inl (.inl (.inl (.inr x3)))))
        · exact .inl (.inl (.inl (.inl (.inl (.inl (.inr x2))))))
      · exact .inl (.inl (.inl (.inl (.inl (.inl (.inl x1))))))
  refine zai rfl (fun hb => ?_) (fun hb => ?_)
  · have hb := ht.1 hb
    (repeat (first | refine zae ?_ | refine zac ?_ | refine zak ?_ | refine zad ?_ | refine zab ?_ | refine zaa hX zaj rfl trivial ?_ | refine zaa hX zaj rfl id ?_ | refine zaa hX zaj rfl ⟨id, id⟩ ?_))
    refine AWP.ret ⟨.inr rfl, zay rfl trivial rfl rfl ?_⟩
    refine (zgO.2 fun e => hb ?_).symm
    cases e
    exact ⟨rfl, rfl, rfl, rfl, rfl, rfl, rfl, rfl⟩
  · have hb : ¬ _ := fun h => by rw [ht.2 h] at hb; cases hb
    obtain ⟨rfl, rfl, rfl, rfl, rfl, rfl, rfl, hlen⟩ := Classical.not_not.1 hb
    refine zac ?_
    (repeat (first | refine zae ?_ | refine zac ?_ | refine zab ?_ | refine zad ?_)); refine zaa hX zaj rfl ?_ ?_
    · trivial
    (repeat (first | refine zae ?_ | refine zac ?_ | refine zab ?_ | refine zad ?_));
    refine zan (σ' := ⟨[(2, ⟨.optr nd, ⟨0, nd, .here⟩⟩), (3, ⟨.optr nd, ⟨1, nd, .here⟩⟩), (5, ⟨i64, (0 : Int)⟩)], [(0, some (.box nd (a1, a2, a3, a4, a5, a6, la, a8, ()))), (1, some (.box nd (a1, a2, a3, a4, a5, a6, lb, a8, ())))], 2⟩) ⟨⟨rfl, rfl, rfl, trivial⟩, ⟨rfl, rfl, trivial⟩, rfl, rfl⟩ ?_
    refine AWP.loop (ι := Nat) (fun k => ⟨[(2, ⟨.optr nd, ⟨0, nd, .here⟩⟩), (3, ⟨.optr nd, ⟨1, nd, .here⟩⟩), (5, ⟨i64, (k : Int)⟩)], [(0, some (.box nd (a1, a2, a3, a4, a5, a6, la, a8, ()))), (1, some (.box nd (a1, a2, a3, a4, a5, a6, lb, a8, ())))], 2⟩) (fun k => k ≤ la.length ∧ la.take k = lb.take k) (fun k => la.length - k) 0 ⟨Nat.zero_le _, rfl⟩ ⟨⟨rfl, rfl, rfl, trivial⟩, ⟨rfl, rfl, trivial⟩, rfl, rfl⟩ ?_
    rintro k ⟨hk, he⟩
    (repeat (first | refine zae ?_ | refine zac ?_ | refine zab ?_ | refine zad ?_)); refine zaa hX zaj rfl ?_ ?_
    · trivial
    refine AWP.len 64 rfl fun hl => ?_
    have hl : la.length ≤ maxLen := hl
    unfold maxLen at hl
    refine zai rfl (fun hb => ?_) (fun hb => ?_)
    · have hb : decide ((k : Int) < ((la.length : Nat) : Int)) = true := hb
      have hb := of_decide_eq_true hb
      have hlt : k < la.length := by omega
      have hlt2 : k < lb.length := by omega
      have z0 : (0 : Int) ≤ (k : Int) := by omega
      have z1 : (k : Int) < ((la.length : Nat) : Int) := by omega
      have z2 : (k : Int) < ((lb.length : Nat) : Int) := by omega
      have g1 : la.getD (k : Int).toNat (0 : Int) = la[k] := zaR hlt
      have g2 : lb.getD (k : Int).toNat (0 : Int) = lb[k] := zaR hlt2
      (repeat (first | refine zae ?_ | refine zac ?_ | refine zab ?_ | refine zad ?_)); refine AWP.draw dM hX zaj 11 (by kernel_rfl) rfl rfl ?_ ?_ ?_
      · repeat' (first | exact trivial | assumption | exact z0 | exact z1 | exact z2 | (refine ⟨?_, ?_⟩) | (intro _) | exact Nat.le_of_ble_eq_true rfl | exact Int.natCast_nonneg _ | (simp_all [allP]; done))
      · trivial
      refine zai rfl (fun hc => ?_) (fun hc => ?_)
      · have hc : (la.getD (k : Int).toNat (0 : Int) != lb.getD (k : Int).toNat (0 : Int)) = true := hc
        rw [g1, g2] at hc
        have hc := bne_iff_ne.1 hc
        (repeat (first | refine zae ?_ | refine zac ?_ | refine zak ?_ | refine zad ?_ | refine zab ?_ | refine zaa hX zaj rfl trivial ?_ | refine zaa hX zaj rfl id ?_ | refine zaa hX zaj rfl ⟨id, id⟩ ?_))
        refine AWP.ret ⟨.inr rfl, zay rfl trivial rfl rfl ?_⟩
        refine (zgO.2 fun e => hc ?_).symm
        have e : la = lb := congrArg ndI e
        subst e
        rfl
      · have hc : (la.getD (k : Int).toNat (0 : Int) != lb.getD (k : Int).toNat (0 : Int)) = false := hc
        rw [g1, g2] at hc
        have hc := bne_eq_false_iff_eq.1 hc
        refine zac ?_
        (repeat (first | refine zae ?_ | refine zac ?_ | refine zab ?_ | refine zad ?_)); refine zaa hX zaj rfl ?_ ?_
        · exact zaT (by omega)
        refine ⟨k + 1, ⟨hlt, ?_⟩, by omega, ⟨rfl, rfl, zdA _, trivial⟩, ⟨rfl, rfl, trivial⟩, rfl, rfl⟩
        rw [List.take_succ_eq_append_getElem hlt, List.take_succ_eq_append_getElem hlt2, he, hc]
    · have hb : decide ((k : Int) < ((la.length : Nat) : Int)) = false := hb
      have hb := of_decide_eq_false hb
      obtain rfl : k = la.length := by omega
      (repeat (first | refine zae ?_ | refine zac ?_ | refine zak ?_ | refine zad ?_ | refine zab ?_ | refine zaa hX zaj rfl trivial ?_ | refine zaa hX zaj rfl id ?_ | refine zaa hX zaj rfl ⟨id, id⟩ ?_))
      refine AWP.ret ⟨.inr rfl, zay rfl trivial rfl rfl ?_⟩
      refine (zke.2 ?_).symm
      rw [List.take_length, hlen, List.take_length] at he
      rw [he]
noncomputable def ziL (a b : List Nd) : Bool := eqb (.slice nd) a b
theorem zgd {a b : List Nd} : ziL a b = true ↔ a = b := zbc
theorem zek {a b : List Nd} : ziL a b = false ↔ a ≠ b := by rw [<- Bool.not_eq_true, zgd]
noncomputable def zrn : Ctr := { args := [.slice nd, .slice nd], pre := fun _ => [], res := .bool, own := none, out := fun x => ziL x.1 x.2.1 }
noncomputable def kSame : Kn := { gmK with C := [(49, zpX)] }
theorem zbp : KnOk Tryz.prog gmH kSame := zaj.with (.cons zoD .nil)
theorem zmF : CtrOk Tryz.prog gmH 18 zrn := by
  refine zaq (K := kSame) zbp Tryz.func18 rfl rfl Tryz.call18 rfl (by decide) (by intro h; cases h) ?_
  rintro w0 X hX ⟨(la : List Nd), (lb : List Nd), _⟩ hp
  change AWP _ _ _ _ _ ⟨[(0, ⟨.slice nd, la⟩), (1, ⟨.slice nd, lb⟩)], [], 0⟩ _
  refine AWP.len 0 rfl fun hl => ?_
  unfold maxLen at hl
  (repeat (first | refine zae ?_ | refine zac ?_ | refine zab ?_ | refine zad ?_)); refine zaa hX zbp rfl ?_ ?_
  · trivial
  (repeat (first | refine zae ?_ | refine zac ?_ | refine zab ?_ | refine zad ?_)); refine zaa hX zbp rfl ?_ ?_
  · trivial
  refine zai rfl (fun hb => ?_) (fun hb => ?_)
  · have hb : (((la.length : Nat) : Int) != ((lb.length : Nat) : Int)) = true := hb
    have hb := bne_iff_ne.1 hb
    (repeat (first | refine zae ?_ | refine zac ?_ | refine zak ?_ | refine zad ?_ | refine zab ?_ | refine zaa hX zbp rfl trivial ?_ | refine zaa hX zbp rfl id ?_ | refine zaa hX zbp rfl ⟨id, id⟩ ?_))
    refine AWP.ret ⟨.inr rfl, zay rfl trivial rfl rfl ?_⟩
    exact (zek.2 fun e => hb (by have e : la = lb := e; rw [e])).symm
  have hb : (((la.length : Nat) : Int) != ((lb.length : Nat) : Int)) = false := hb
  have hb := bne_eq_false_iff_eq.1 hb
  have hlen : la.length = lb.length := by omega
  refine zac ?_
  (repeat (first | refine zae ?_ | refine zac ?_ | refine zab ?_ | refine zad ?_)); refine zaa hX zbp rfl ?_ ?_
  · trivial
  (repeat (first | refine zae ?_ | refine zac ?_ | refine zab ?_ | refine zad ?_));
  refine AWP.loop (ι := Nat) (fun k => ⟨[(0, ⟨.slice nd, la⟩), (1, ⟨.slice nd, lb⟩), (5, ⟨i64, (k : Int)⟩)], [], 0⟩) (fun k => k ≤ la.length ∧ la.take k = lb.take k) (fun k => la.length - k) 0 ⟨Nat.zero_le _, rfl⟩ ⟨⟨rfl, rfl, rfl, trivial⟩, trivial, rfl, rfl⟩ ?_
  rintro k ⟨hk, he⟩
  (repeat (first | refine zae ?_ | refine zac ?_ | refine zab ?_ | refine zad ?_)); refine zaa hX zbp rfl ?_ ?_
  · trivial
  refine zai rfl (fun hb => ?_) (fun hb => ?_)
  · have hb : decide ((k : Int) < ((la.length : Nat) : Int)) = true := hb
    have hb := of_decide_eq_true hb
    have hlt : k < la.length := by omega
    have hlt2 : k < lb.length := by omega
    have z0 : (0 : Int) ≤ (k : Int) := by omega
    have z1 : (k : Int) < ((la.length : Nat) : Int) := by omega
    have z2 : (k : Int) < ((lb.length : Nat) : Int) := by omega
    have g1 : la.getD (k : Int).toNat zNd = la[k] := zaR hlt
    have g2 : lb.getD (k : Int).toNat zNd = lb[k] := zaR hlt2
    (repeat (first | refine zae ?_ | refine zac ?_ | refine zab ?_ | refine zad ?_)); refine AWP.draw dM hX zbp 10 (by kernel_rfl) rfl rfl ?_ ?_ ?_
    · repeat' (first | exact trivial | assumption | exact z0 | exact z1 | exact z2 | (refine ⟨?_, ?_⟩) | (intro _) | exact Nat.le_of_ble_eq_true rfl | exact Int.natCast_nonneg _ | (simp_all [allP]; done))
    · trivial
    refine zai rfl (fun hc => ?_) (fun hc => ?_)
    · have hc : (!eqN (la.getD (k : Int).toNat zNd) (lb.getD (k : Int).toNat zNd)) = true := hc
      rw [g1, g2, Bool.not_eq_true'] at hc
      have hc := zgO.1 hc
      (repeat (first | refine zae ?_ | refine zac ?_ | refine zak ?_ | refine zad ?_ | refine zab ?_ | refine zaa hX zbp rfl trivial ?_ | refine zaa hX zbp rfl id ?_ | refine zaa hX zbp rfl ⟨id, id⟩ ?_))
      refine AWP.ret ⟨.inr rfl, zay rfl trivial rfl rfl ?_⟩
      refine (zek.2 fun e => hc ?_).symm
      have e : la = lb := e
      subst e
      rfl
    · have hc : (!eqN (la.getD (k : Int).toNat zNd) (lb.getD (k : Int).toNat zNd)) = false := hc
      rw [g1, g2, Bool.not_eq_false'] at hc
      have hc := zke.1 hc
      refine zac ?_
      (repeat (first | refine zae ?_ | refine zac ?_ | refine zab ?_ | refine zad ?_)); refine zaa hX zbp rfl ?_ ?_
      · exact zaT (by omega)
      refine ⟨k + 1, ⟨hlt, ?_⟩, by omega, ⟨rfl, rfl, zdA _, trivial⟩, trivial, rfl, rfl⟩
      rw [List.take_succ_eq_append_getElem hlt, List.take_succ_eq_append_getElem hlt2, he, hc]
  · have hb : decide ((k : Int) < ((la.length : Nat) : Int)) = false := hb
    have hb := of_decide_eq_false hb
    obtain rfl : k = la.length := by omega
    (repeat (first | refine zae ?_ | refine zac ?_ | refine zak ?_ | refine zad ?_ | refine zab ?_ | refine zaa hX zbp rfl trivial ?_ | refine zaa hX zbp rfl id ?_ | refine zaa hX zbp rfl ⟨id, id⟩ ?_))
    refine AWP.ret ⟨.inr rfl, zay rfl trivial rfl rfl ?_⟩
    refine (zgd.2 ?_).symm
    rw [List.take_length, hlen, List.take_length] at he
    exact he
noncomputable def zhj (a b : List De) : Bool := eqb (.slice de) a b
theorem zdf {a b : List De} : zhj a b = true ↔ a = b := zbc
theorem zfD {a b : List De} : zhj a b = false ↔ a ≠ b := by rw [<- Bool.not_eq_true, zdf]
noncomputable def zpY : Ctr := { args := [.slice de, .slice de], pre := fun _ => [], res := .bool, own := none, out := fun x => zhj x.1 x.2.1 }
noncomputable def zpP : Kn := { gmK with C := [(18, zrn)] }
theorem za5 : KnOk Tryz.prog gmH zpP := zaj.with (.cons zmF .nil)
theorem zoE : CtrOk Tryz.prog gmH 21 zpY := by
  refine zaq (K := zpP) za5 Tryz.func21 rfl rfl Tryz.call21 rfl (by decide) (by intro h; cases h) ?_
  rintro w0 X hX ⟨(la : List De), (lb : List De), _⟩ hp
  change AWP _ _ _ _ _ ⟨[(0, ⟨.slice de, la⟩), (1, ⟨.slice de, lb⟩)], [], 0⟩ _
  refine AWP.len 0 rfl fun hl => ?_
  unfold maxLen at hl
  (repeat (first | refine zae ?_ | refine zac ?_ | refine zab ?_ | refine zad ?_)); refine zaa hX za5 rfl ?_ ?_
  · trivial
  (repeat (first | refine zae ?_ | refine zac ?_ | refine zab ?_ | refine zad ?_)); refine zaa hX za5 rfl ?_ ?_
  · trivial
  refine zai rfl (fun hb => ?_) (fun hb => ?_)
  · have hb : (((la.length : Nat) : Int) != ((lb.length : Nat) : Int)) = true := hb
    have hb := bne_iff_ne.1 hb
    (repeat (first | refine zae ?_ | refine zac ?_ | refine zak ?_ | refine zad ?_ | refine zab ?_ | refine zaa hX za5 rfl trivial ?_ | refine zaa hX za5 rfl id ?_ | refine zaa hX za5 rfl ⟨id, id⟩ ?_))
    refine AWP.ret ⟨.inr rfl, zay rfl trivial rfl rfl ?_⟩
    exact (zfD.2 fun e => hb (by have e : la = lb := e; rw [e])).symm
  have hb : (((la.length : Nat) : Int) != ((lb.length : Nat) : Int)) = false := hb
  have hb := bne_eq_false_iff_eq.1 hb
  have hlen : la.length = lb.length := by omega
  refine zac ?_
  (repeat (first | refine zae ?_ | refine zac ?_ | refine zab ?_ | refine zad ?_)); refine zaa hX za5 rfl ?_ ?_
  · trivial
  (repeat (first | refine zae ?_ | refine zac ?_ | refine zab ?_ | refine zad ?_));
  refine AWP.loop (ι := Nat) (fun k => ⟨[(0, ⟨.slice de, la⟩), (1, ⟨.slice de, lb⟩), (5, ⟨i64, (k : Int)⟩)], [], 0⟩) (fun k => k ≤ la.length ∧ la.take k = lb.take k) (fun k => la.length - k) 0 ⟨Nat.zero_le _, rfl⟩ ⟨⟨rfl, rfl, rfl, trivial⟩, trivial, rfl, rfl⟩ ?_
  rintro k ⟨hk, he⟩
  (repeat (first | refine zae ?_ | refine zac ?_ | refine zab ?_ | refine zad ?_)); refine zaa hX za5 rfl ?_ ?_
  · trivial
  refine zai rfl (fun hb => ?_) (fun hb => ?_)
  · have hb : decide ((k : Int) < ((la.length : Nat) : Int)) = true := hb
    have hb := of_decide_eq_true hb
    have hlt : k < la.length := by omega
    have hlt2 : k < lb.length := by omega
    have z0 : (0 : Int) ≤ (k : Int) := by omega
    have z1 : (k : Int) < ((la.length : Nat) : Int) := by omega
    have z2 : (k : Int) < ((lb.length : Nat) : Int) := by omega
    have g1 : la.getD (k : Int).toNat zDe = la[k] := zaR hlt
    have g2 : lb.getD (k : Int).toNat zDe = lb[k] := zaR hlt2
    have hq : (bif !eqb .str la[k].1 lb[k].1 then true else !ziL la[k].2.1 lb[k].2.1) = true ↔ la[k] ≠ lb[k] := by
      rw [b_or, Bool.or_eq_true, Bool.not_eq_true', Bool.not_eq_true', zek, <- Bool.not_eq_true, zbc]
      generalize la[k] = x
      generalize lb[k] = y
      obtain ⟨x1, x2, ⟨⟩⟩ := x
      obtain ⟨y1, y2, ⟨⟩⟩ := y
      constructor
      · rintro (h | h) e
        · cases e; exact h rfl
        · cases e; exact h rfl
      · intro h
        by_cases h1 : x1 = y1
        · refine .inr fun h2 => h ?_
          have h2 : x2 = y2 := h2
          rw [h1, h2]
        · exact .inl h1
    (repeat (first | refine zae ?_ | refine zac ?_ | refine zab ?_ | refine zad ?_)); refine AWP.draw dM hX za5 25 (by kernel_rfl) rfl rfl ?_ ?_ ?_
    · repeat' (first | exact trivial | assumption | exact z0 | exact z1 | exact z2 | (refine ⟨?_, ?_⟩) | (intro _) | exact Nat.le_of_ble_eq_true rfl | exact Int.natCast_nonneg _ | (simp_all [allP]; done))
    · trivial
    refine zai rfl (fun hc => ?_) (fun hc => ?_)
    · have hc : (bif !eqb .str (la.getD (k : Int).toNat zDe).1 (lb.getD (k : Int).toNat zDe).1 then true else !ziL (la.getD (k : Int).toNat zDe).2.1 (lb.getD (k : Int).toNat zDe).2.1) = true := hc
      rw [g1, g2] at hc
      have hc := hq.1 hc
      (repeat (first | refine zae ?_ | refine zac ?_ | refine zak ?_ | refine zad ?_ | refine zab ?_ | refine zaa hX za5 rfl trivial ?_ | refine zaa hX za5 rfl id ?_ | refine zaa hX za5 rfl ⟨id, id⟩ ?_))
      refine AWP.ret ⟨.inr rfl, zay rfl trivial rfl rfl ?_⟩
      refine (zfD.2 fun e => hc ?_).symm
      have e : la = lb := e
      subst e
      rfl
    · have hc : (bif !eqb .str (la.getD (k : Int).toNat zDe).1 (lb.getD (k : Int).toNat zDe).1 then true else !ziL (la.getD (k : Int).toNat zDe).2.1 (lb.getD (k : Int).toNat zDe).2.1) = false := hc
      rw [g1, g2] at hc
      have hc : la[k] = lb[k] := Classical.not_not.1 fun h => by rw [hq.2 h] at hc; cases hc
      refine zac ?_
      (repeat (first | refine zae ?_ | refine zac ?_ | refine zab ?_ | refine zad ?_)); refine zaa hX za5 rfl ?_ ?_
      · exact zaT (by omega)
      refine ⟨k + 1, ⟨hlt, ?_⟩, by omega, ⟨rfl, rfl, zdA _, trivial⟩, trivial, rfl, rfl⟩
      rw [List.take_succ_eq_append_getElem hlt, List.take_succ_eq_append_getElem hlt2, he, hc]
  · have hb : decide ((k : Int) < ((la.length : Nat) : Int)) = false := hb
    have hb := of_decide_eq_false hb
    obtain rfl : k = la.length := by omega
    (repeat (first | refine zae ?_ | refine zac ?_ | refine zak ?_ | refine zad ?_ | refine zab ?_ | refine zaa hX za5 rfl trivial ?_ | refine zaa hX za5 rfl id ?_ | refine zaa hX za5 rfl ⟨id, id⟩ ?_))
    refine AWP.ret ⟨.inr rfl, zay rfl trivial rfl rfl ?_⟩
    refine (zdf.2 ?_).symm
    rw [List.take_length, hlen, List.take_length] at he
    exact he
noncomputable def zgt (y : List UInt8) : Bool := (!zja y [35]) && decide (zbr isWh y < y.length)
noncomputable def zb6 (y : List UInt8) (fr : Nat) (acc : List De) : Except (Int × Int) (List De) :=
  if zgt y = true then
    if 4000 < y.length then .error ((fr : Int), 2)
    else match zdC y ((acc.length : Nat) : Int) with
      | .ok d => .ok (acc ++ [d])
      | .error e => if e.2 = 0 then .ok acc else .error ((fr : Int) + e.1, e.2)
  else .ok acc
noncomputable def libK : List (List UInt8) -> Nat -> List De -> List De × Int × Int
  | [], _, acc => (acc, 0, 0)
  | y :: r, fr, acc => match zb6 y fr acc with
    | .error e => ([], e.1, e.2)
    | .ok acc' => libK r (fr + y.length + 1) acc'
noncomputable def zaC (s : List UInt8) : List De × Int × Int := if 1048576 < s.length then ([], 0, 2) else libK (segs s) 0 []
def lPF : List (Nat × V) := [(2, ⟨.hptr, ((0 : Nat), (0 : Nat))⟩), (3, ⟨.optr i64, ⟨1, i64, .here⟩⟩), (4, ⟨.optr i64, ⟨2, i64, .here⟩⟩), (5, ⟨.hptr, ((3 : Nat), (0 : Nat))⟩), (6, ⟨.optr i64, ⟨4, i64, .here⟩⟩), (7, ⟨.optr .str, ⟨5, .str, .here⟩⟩)]
def lRE (at' e : Int) : Owns := [(0, some (.hbox tD [⟨.lit, .slice none 0 0⟩])), (1, some (.box i64 at')), (2, some (.box i64 e))]
def zjY (y : List UInt8) (fr : Nat) (e : Exit) (σ : AS) : Except (Int × Int) (List De) -> Prop
  | .ok acc' => e = .normal ∧ Fit σ ⟨[], libE y ((fr + y.length + 1 : Nat) : Int) acc', 7⟩
  | .error er => e = .ret ∧ Fit σ ⟨[], lRE er.1 er.2, 7⟩
noncomputable def kLc : Kn := { gmK with H := [tD], C := [(51, cPre), (52, zkj 53 isWh)] }
theorem zbW : KnOk Tryz.prog gmH kLc := ⟨zgH, zgG, .cons znD <| .cons ziF.lift .nil, zhA, RsOk.nil⟩
def znK : Code -> Option (Code × Code)
  | .rangeFunc _ _ a b => some (a, b)
  | .seq x y => match znK x with
    | some r => some r
    | none => znK y
  | .block _ c => znK c
  | _ => none
noncomputable def lBody : Code := match znK (Tryz.f19.body.getD .skip) with
  | some r => r.2
  | none => .skip
noncomputable def lAsgn : Code := match znK (Tryz.f19.body.getD .skip) with
  | some r => r.1
  | none => .skip
theorem zo1 {w1 : World} {X : Ownr} {y : List UInt8} {fr : Nat} {acc : List De} (hy : y.length ≤ 1100000) (hfr : fr ≤ 1100000) (ha : acc.length ≤ 1000000) (hX : X.Ok w1) (hG : X.G = gmH) (hK : X.K = 5) (hinv : ∀ ty, ginv w1 X.R ty) (her : ∀ er, zdC y ((acc.length : Nat) : Int) = .error er -> 0 ≤ er.1 ∧ er.1 ≤ 1100000) :
    AWP Tryz.prog w1 X 47 lBody ⟨lPF, libE y (fr : Int) acc, 7⟩ (fun e σ => zjY y fr e σ (zb6 y fr acc)) := by
  obtain ⟨G, O, K, fix, D, ρ, B⟩ := X
  obtain rfl : G = gmH := hG
  obtain rfl : K = 5 := hK
  unfold lPF libE
  refine zab ?_
  have hp1 : y.length ≤ 2000000 ∧ ([35] : List UInt8).length ≤ 2000000 := ⟨by omega, by decide⟩
  refine zae ?_
  refine AWP.via (σ' := ⟨[(2, ⟨.hptr, ((0 : Nat), (0 : Nat))⟩), (3, ⟨.optr i64, ⟨1, i64, .here⟩⟩), (4, ⟨.optr i64, ⟨2, i64, .here⟩⟩), (5, ⟨.hptr, ((3 : Nat), (0 : Nat))⟩), (6, ⟨.optr i64, ⟨4, i64, .here⟩⟩), (7, ⟨.optr .str, ⟨5, .str, .here⟩⟩), (25, ⟨.bool, zgt y⟩)], libE y (fr : Int) acc, 7⟩) ?_ ?_
  · unfold libE
    refine AWP.ordersA dM 10 rfl (by kernel_rfl) ?_
    cases hq : zja y [35] with
    | true =>
      have hl0 : zgt y = false := by unfold zgt; rw [hq]; rfl
      have hb : (!zja y [35]) = false := by rw [hq]; rfl
      have hl2 : (bif !zja y [35] then false else false) = zgt y := by rw [hl0, hb]; rfl
      repeat' (first
        | exact AllN.nil
        | refine AllN.cons ⟨_, rfl, ?_⟩ ?_
        | refine StepA.eval hX zbW rfl trivial ?_
        | refine StepA.eval hX zbW rfl hp1 ?_
        | (refine StepA.guardF 3 19 true .bool false rfl rfl (zcS hb) rfl rfl rfl ?_)
        | refine StepA.eval hX zbW rfl (by exact fun h => hb.symm.trans h) ?_
        | (refine OrdA.last ?_; exact ⟨⟨rfl, rfl, rfl, rfl, rfl, rfl, zcS hl2, trivial⟩, ⟨rfl, rfl, rfl, rfl, rfl, rfl, rfl, trivial⟩, rfl, rfl⟩))
    | false =>
      have hb : (!zja y [35]) = true := by rw [hq]; rfl
      have hl1 : (bif !zja y [35] then decide (((zbr isWh y : Nat) : Int) < ((y.length : Nat) : Int)) else false) = zgt y := by
        unfold zgt
        rw [zca]
        congr 1
        exact decide_eq_decide.2 Int.ofNat_lt
      repeat' (first
        | exact AllN.nil
        | refine AllN.cons ⟨_, rfl, ?_⟩ ?_
        | refine StepA.guardT 3 19 true rfl rfl (zcS hb) rfl ?_
        | refine StepA.eval hX zbW rfl trivial ?_
        | refine StepA.eval hX zbW rfl hp1 ?_
        | refine StepA.eval hX zbW rfl (by exact rfl) ?_
        | refine StepA.eval hX zbW rfl (by exact fun h => h) ?_
        | (refine OrdA.last ?_; exact ⟨⟨rfl, rfl, rfl, rfl, rfl, rfl, zcS hl1, trivial⟩, ⟨rfl, rfl, rfl, rfl, rfl, rfl, rfl, trivial⟩, rfl, rfl⟩))
  have hlen : ((y.length : Nat) : Int) ≤ 1100000 := by omega
  have hfrl : ((fr : Nat) : Int) ≤ 1100000 := by omega
  have q0 : inR .i64 (((y.length : Nat) : Int) + 1) := zat (by omega) (by omega)
  have q1 : inR .i64 ((fr : Int) + (((y.length : Nat) : Int) + 1)) := zat (by omega) (by omega)
  have hend : (fr : Int) + (((y.length : Nat) : Int) + 1) = ((fr + y.length + 1 : Nat) : Int) := by omega
  unfold libE
  refine zai rfl (fun hb => ?_) (fun hb => ?_)
  · have hb : zgt y = true := hb
    unfold zb6
    rw [if_pos hb]
    (repeat (first | refine zae ?_ | refine zac ?_ | refine zab ?_ | refine zad ?_)); refine zaa hX zbW rfl ?_ ?_
    · trivial
    refine zai rfl (fun hb => ?_) (fun hb => ?_)
    · have hb : decide (((4000 : Nat) : Int) < ((y.length : Nat) : Int)) = true := hb
      have hb := of_decide_eq_true hb
      rw [if_pos (by omega)]
      refine AWP.via (σ' := ⟨[], lRE (fr : Int) 2, 7⟩) ?_ ?_
      · unfold lRE
        refine AWP.ordersA dM 4 rfl (by kernel_rfl) ?_
        repeat' (first
          | exact AllN.nil
          | refine AllN.cons ⟨_, rfl, ?_⟩ ?_
          | refine StepA.eval hX zbW rfl trivial ?_
          | (refine OrdA.last ?_; exact ⟨trivial, ⟨rfl, rfl, rfl, trivial⟩, rfl, rfl⟩))
      · exact AWP.ret ⟨rfl, trivial, ⟨rfl, rfl, rfl, trivial⟩, rfl, rfl⟩
    have hb : decide (((4000 : Nat) : Int) < ((y.length : Nat) : Int)) = false := hb
    have hb := of_decide_eq_false hb
    rw [if_neg (by omega)]
    refine zac ?_
    refine zan (σ' := ⟨lPF, libE y (fr : Int) acc, 7⟩) ⟨⟨rfl, rfl, rfl, rfl, rfl, rfl, trivial⟩, ⟨rfl, rfl, rfl, rfl, rfl, rfl, rfl, trivial⟩, rfl, rfl⟩ ?_
    unfold lPF
    (repeat (first | refine zae ?_ | refine zac ?_ | refine zab ?_ | refine zad ?_)); refine zah ?_
    refine AL.runClo hX 6 rfl rfl rfl rfl rfl rfl rfl rfl rfl rfl (by show 5 ≤ 6; omega) Tryz.func54 rfl rfl rfl rfl Tryz.call54 rfl rfl rfl (N := NLib y (fr : Int) acc) (fun w2 X' h1 h2 h3 h4 h5 h6 => ?_) (fun r σ hN => ?_)
    · refine zo2 (by omega) ha h1 h2 h3 h4 h5 fun ty => zaD (ty := ty) hX rfl (hinv ty) _ _ h6 (by
        have := h1.2.2 w2 (Kept.refl _ _)
        rwa [h2] at this)
    rcases hN with ⟨d, hd, rfl, hf⟩ | ⟨er, hd, rfl, hf⟩
    · refine AL.fit (σ' := ⟨(32, ⟨tupI, ((0 : Int), (0 : Int), ())⟩) :: lPF, libE y (fr : Int) (acc ++ [d]), 7⟩) ⟨⟨rfl, rfl, rfl, rfl, rfl, rfl, rfl, trivial⟩, hf.e, rfl, rfl⟩ ?_
      unfold lPF libE
      refine AL.all hX zbW rfl trivial ?_
      (repeat (first | refine zae ?_ | refine zac ?_ | refine zab ?_ | refine zad ?_)); refine zaa hX zbW rfl ?_ ?_
      · trivial
      refine zai rfl (fun hb => absurd (show false = true from hb) (by decide)) (fun _ => ?_)
      refine zac ?_
      rw [hd]
      (repeat (first | refine zae ?_ | refine zac ?_ | refine zab ?_ | refine zad ?_)); refine zaa hX zbW rfl ?_ ?_
      · exact ⟨q0, q1⟩
      exact ⟨rfl, trivial, ⟨rfl, rfl, rfl, rfl, ze5 hend, rfl, rfl, trivial⟩, rfl, rfl⟩
    · refine AL.fit (σ' := ⟨(32, ⟨tupI, (er.1, er.2, ())⟩) :: lPF, libE y (fr : Int) acc, 7⟩) ⟨⟨rfl, rfl, rfl, rfl, rfl, rfl, rfl, trivial⟩, hf.e, rfl, rfl⟩ ?_
      obtain ⟨her0, her1⟩ := her er hd
      have q2 : inR .i64 ((fr : Int) + er.1) := zat (by omega) (by omega)
      unfold lPF libE
      refine AL.all hX zbW rfl trivial ?_
      (repeat (first | refine zae ?_ | refine zac ?_ | refine zab ?_ | refine zad ?_)); refine zaa hX zbW rfl ?_ ?_
      · trivial
      rw [hd]
      refine zai rfl (fun hb => ?_) (fun hb => ?_)
      · have hb : (er.2 != 0) = true := hb
        have hb : er.2 ≠ 0 := bne_iff_ne.1 hb
        show AWP _ _ _ _ _ _ (zjJ _ _)
        refine AWP.via (σ' := ⟨[], lRE ((fr : Int) + er.1) er.2, 7⟩) ?_ ?_
        · unfold lRE
          refine AWP.ordersA dM 7 rfl (by kernel_rfl) ?_
          repeat' (first
            | exact AllN.nil
            | refine AllN.cons ⟨_, rfl, ?_⟩ ?_
            | refine StepA.eval hX zbW rfl trivial ?_
            | refine StepA.eval hX zbW rfl q2 ?_
            | (refine OrdA.last ?_; exact ⟨trivial, ⟨rfl, rfl, rfl, trivial⟩, rfl, rfl⟩))
        · refine AWP.ret ?_
          show zjY y fr .ret _ (if er.2 = 0 then .ok acc else .error ((fr : Int) + er.1, er.2))
          rw [if_neg hb]
          exact ⟨rfl, trivial, ⟨rfl, rfl, rfl, trivial⟩, rfl, rfl⟩
      · have hb : (er.2 != 0) = false := hb
        have hb : er.2 = 0 := by
          by_cases h : er.2 = 0
          · exact h
          · rw [bne_iff_ne.2 h] at hb; cases hb
        refine zac ?_
        (repeat (first | refine zae ?_ | refine zac ?_ | refine zab ?_ | refine zad ?_)); refine zaa hX zbW rfl ?_ ?_
        · exact ⟨q0, q1⟩
        show zjY y fr .normal _ (if er.2 = 0 then .ok acc else .error ((fr : Int) + er.1, er.2))
        rw [if_pos hb]
        exact ⟨rfl, trivial, ⟨rfl, rfl, rfl, rfl, ze5 hend, rfl, rfl, trivial⟩, rfl, rfl⟩
  · have hb : zgt y = false := hb
    unfold zb6
    rw [if_neg (by rw [hb]; decide)]
    refine zac ?_
    (repeat (first | refine zae ?_ | refine zac ?_ | refine zab ?_ | refine zad ?_)); refine zaa hX zbW rfl ?_ ?_
    · exact ⟨q0, q1⟩
    exact ⟨rfl, trivial, ⟨rfl, rfl, rfl, rfl, ze5 hend, rfl, rfl, trivial⟩, rfl, rfl⟩
end Go.Proofs.YtpeaigpfddalcaaGreatDoor
namespace Go.Proofs.YtpeaigpfddalcaaGreatDoor
open Go Go.RowKit
set_option linter.unusedSimpArgs false
set_option linter.unusedVariables false
attribute [local go_sem] Oper.semAt_some
set_option maxRecDepth 100000
def zcq : List (List UInt8) -> Nat
  | [] => 0
  | g :: r => g.length + 1 + zcq r
theorem zfc : ∀ (s c : List UInt8), zcq (segF c s) = c.length + s.length + 1
  | [], c => by unfold segF zcq zcq; simp
  | x :: r, c => by
    unfold segF
    split
    · rw [zcq, zfc r []]; simp; omega
    · rw [zfc r]; simp; omega
theorem zdd (s : List UInt8) : zcq (segs s) = s.length + 1 := by rw [segs, zfc]; simp
theorem ziJ (y : List UInt8) : GOk y (zaW y, 0) := by
  have := zf2 (s := y)
  unfold zg7 at this
  rwa [zkA] at this
theorem zh2 {y : List UInt8} {k : Int} {er : Int × Int} (h : zdC y k = .error er) : 0 ≤ er.1 ∧ er.1 ≤ ((y.length : Nat) : Int) := by
  have hg := ziJ y
  have he : Er y (gDef y (zaW y, 0) k) := zaz (zbP hg) fun u hu => zaz (zbP hg) fun _ _ => by
    have hc := zbl hu
    rw [beq_iff_eq] at hc
    have k1 := zbV hg (by show Tok.cls (zaW y, (0 : Int)).1 ≠ 0; rw [hc]; decide)
    exact zaz (zdR k1.1) fun a ha => zaz (zrc (za9 k1.1 ha).1) fun _ _ => zcP
  unfold zdC at h
  cases hd : gDef y (zaW y, 0) k with
  | ok r => rw [hd] at h; cases h
  | error e =>
    rw [hd] at h
    cases h
    exact he _ hd
theorem zne {y : List UInt8} {k : Nat} {d : De} (h : zdC y (k : Int) = .ok d) : k < 4096 := by
  unfold zdC at h
  cases hd : gDef y (zaW y, 0) (k : Int) with
  | error e => rw [hd] at h; cases h
  | ok r =>
    obtain ⟨u, _, h2⟩ := zam hd
    obtain ⟨u2, h3, _⟩ := zam h2
    have h3 := zbl h3
    rw [Bool.and_eq_true, decide_eq_true_iff, decide_eq_true_iff] at h3
    omega
theorem zmp {y : List UInt8} {fr : Nat} {acc acc' : List De} (ha : acc.length ≤ 4096) (h : zb6 y fr acc = .ok acc') : acc'.length ≤ 4096 := by
  unfold zb6 at h
  split at h
  · split at h
    · cases h
    · split at h
      · rename_i d hd
        cases h
        have := zne hd
        rw [List.length_append, List.length_singleton]
        omega
      · split at h
        · cases h; exact ha
        · cases h
  · cases h; exact ha
abbrev XL (O : Nat -> Prop) (fix : Nat -> Nat) (D : List Deferred) (ρ : Option Nat) : Ownr := { G := gmH, X := O, K := 5, fix := fix, D := D, ρ := ρ }
def sLE (fr : Nat) (acc : List De) : Owns := [(0, some (.hbox tD [⟨.lit, .slice none 0 0⟩])), (1, some (.box i64 (0 : Int))), (2, some (.box i64 (0 : Int))), (3, some (zmL 5)), (4, some (.box i64 (fr : Int))), (5, some (.buf 37 de acc))]
def lPF0 : List (Nat × V) := [(2, ⟨.hptr, ((0 : Nat), (0 : Nat))⟩), (3, ⟨.optr i64, ⟨1, i64, .here⟩⟩), (4, ⟨.optr i64, ⟨2, i64, .here⟩⟩), (5, ⟨.hptr, ((3 : Nat), (0 : Nat))⟩), (6, ⟨.optr i64, ⟨4, i64, .here⟩⟩)]
def lRn : List (Nat × Nat) := [(0, 0), (1, 1), (2, 2), (3, 3), (4, 4), (6, 5), (5, 6)]
theorem znq {B : World} {O : Nat -> Prop} {fix : Nat -> Nat} {D : List Deferred} {ρ : Option Nat} (hX : (XL O fix D ρ).Ok B) (y : List UInt8) (fr : Nat) (acc : List De) :
    AWP Tryz.prog B (XL O fix D ρ) 47 lAsgn ⟨(15, ⟨.str, y⟩) :: lPF0, sLE fr acc, 6⟩ (fun e σ => e = .normal ∧ Fit σ ⟨(2, ⟨.hptr, ((0 : Nat), (0 : Nat))⟩) :: (3, ⟨.optr i64, ⟨1, i64, .here⟩⟩) :: (4, ⟨.optr i64, ⟨2, i64, .here⟩⟩) :: (5, ⟨.hptr, ((3 : Nat), (0 : Nat))⟩) :: (6, ⟨.optr i64, ⟨4, i64, .here⟩⟩) :: [(7, ⟨.optr .str, ⟨6, .str, .here⟩⟩)], (6, some (.box .str y)) :: sLE fr acc, 7⟩) := by
  unfold lPF0 sLE
  (repeat (first | refine zae ?_ | refine zac ?_ | refine zab ?_ | refine zad ?_)); refine zaa hX zbW rfl ?_ ?_
  · trivial
  exact ⟨rfl, ⟨rfl, rfl, rfl, rfl, rfl, rfl, trivial⟩, ⟨rfl, rfl, rfl, rfl, rfl, rfl, rfl, trivial⟩, rfl, rfl⟩
noncomputable def lTail : Code := match Tryz.f19.body.getD .skip with
  | .seq _ (.seq _ (.seq _ (.seq _ (.seq _ t)))) => t
  | c => c
def sLT (acc : List De) : AS := ⟨[(2, ⟨.hptr, ((0 : Nat), (0 : Nat))⟩), (3, ⟨.optr i64, ⟨1, i64, .here⟩⟩), (4, ⟨.optr i64, ⟨2, i64, .here⟩⟩)], [(0, some (.hbox tD [⟨.slice de, acc⟩])), (1, some (.box i64 (0 : Int))), (2, some (.box i64 (0 : Int)))], 6⟩
theorem znb {B : World} {O : Nat -> Prop} {fix : Nat -> Nat} {D : List Deferred} (hX : (XL O fix D none).Ok B) (fr : Nat) (acc : List De) :
    AWP Tryz.prog B (XL O fix D none) 47 lTail ⟨lPF0, sLE fr acc, 6⟩ (fun e σ => e = .ret ∧ Fit σ (sLT acc)) := by
  unfold lPF0 sLE sLT
  refine AWP.frzL hX 3 0 ?_
  (repeat (first | refine zae ?_ | refine zac ?_ | refine zak ?_ | refine zad ?_ | refine zab ?_ | refine zaa hX zbW rfl trivial ?_ | refine zaa hX zbW rfl id ?_ | refine zaa hX zbW rfl ⟨id, id⟩ ?_))
  exact AWP.ret ⟨rfl, ⟨rfl, rfl, rfl, trivial⟩, ⟨rfl, rfl, rfl, trivial⟩, rfl, rfl⟩
section
variable {B W : World} {X : Ownr} {n : Nat} {σ : AS} {β : Nat -> Value} {a : Act}
theorem zlf (h : Sim B X n σ β a W) {i : Nat} (hi : i < X.K) {t : Ty} {x : t.T} (hE : Owns.get σ.E i = some (.box t x)) : ∃ cs ty, W.heap[X.fix i]? = some (.cells (List.toArray cs) ty (0, 0)) ∧ RepC W (OSet X σ.E β) t x cs := by
  obtain ⟨g, cs, ty, q1, _, q2, q3⟩ := h.own i _ hE
  have q4 := (h.fix.2 i hi).1
  rw [q1] at q4
  have q4 : g = X.fix i := by simpa [zag] using q4
  subst q4
  exact ⟨cs, ty, q2, q3⟩
theorem znC (h : Sim B X n σ β a W) {i : Nat} (hi : i < X.K) {v : V} {ty : TypeId} (hE : Owns.get σ.E i = some (.hbox ty [v])) : ∃ u, W.heap[X.fix i]? = some (.cells #[u] ty (0, 0)) ∧ u.oneCell' = true ∧ RepV W (OSet X σ.E β) β v.t v.x u := by
  obtain ⟨g, cs, q1, _, q2, u, r, rfl, q5, q6, q7⟩ := h.own i _ hE
  have q7 : r = [] := q7
  subst q7
  have q4 := (h.fix.2 i hi).1
  rw [q1] at q4
  have q4 : g = X.fix i := by simpa [zag] using q4
  subst q4
  exact ⟨u, q2, q5, q6⟩
theorem zlu {B A C : World} {X X' : Ownr} {n n' : Nat} {σ σ' : AS} {β β' : Nat -> Value} {a a' : Act} {I : Nat -> Prop} (h : Sim B X n σ β a A) (h' : Sim B X' n' σ' β' a' C) (hR : ∀ g, X'.R g -> X.R g) (hX : X.Ok B) (hI : ∀ g, I g -> X g) : SameOn I B.heap.size A C :=
  ⟨h'.bel.os.trans h.bel.os.symm, h'.bel.tape.trans h.bel.tape.symm, h'.bel.output.trans h.bel.output.symm, h'.bel.size, fun k hk =>
    have hx := hX.1 k (hI k hk)
    (h'.bel.block k hx.1 fun hr => hx.2 (hR k hr)).trans (h.bel.block k hx.1 hx.2).symm⟩
end
def znt (a : Act) (x : Value) : Act := { tmps := ((#[15] : Array Tmp).zip #[x]).foldl (fun t (p, v) => t.setIfInBounds p v) a.tmps, defers := [] }
theorem zdg {a : Act} {x : Value} (hsz : a.tmps.size = 47) (s : Nat) : (znt a x).tmps.getD s undef = if 15 = s then x else a.tmps.getD s undef := by
  have : (znt a x).tmps = a.tmps.setIfInBounds 15 x := by simp [znt]
  rw [this]
  by_cases h : 15 = s
  · subst h
    rw [if_pos rfl]
    simp [Array.getD_eq_getD_getElem?, Array.getElem?_setIfInBounds, hsz]
  · rw [if_neg h]
    simp [Array.getD_eq_getD_getElem?, Array.getElem?_setIfInBounds, h]
def nA : Act := { tmps := #[], defers := [] }
section
variable {w w5 : World} {O : Nat -> Prop} {N : Nat} {s : List UInt8} {t0 t1 t2 t3 t4 : TypeId} {a5 : Act}
def lI (N D : Nat) (g : Nat) : Prop := itI (N + 5) (N + 6) (N + 7) g ∨ g = D ∨ g = D + 1
def lO (O : Nat -> Prop) (N D : Nat) (g : Nat) : Prop := O g ∨ lI N D g
def lFix (N : Nat) (i : Nat) : Nat := N + i
def lBB (w5 : World) (N : Nat) (B : World) : Prop := B.heap.size = w5.heap.size + 2 ∧ Kept (lI N w5.heap.size) w5 B
theorem lR {N : Nat} {O' : Nat -> Prop} {D : List Deferred} {ρ : Option Nat} {g : Nat} (h : (XL O' (lFix N) D ρ).R g) : N ≤ g ∧ g ≤ N + 4 := by
  rcases h with ⟨i, hi, rfl⟩ | h
  · have hi : i < 5 := hi
    show N ≤ N + i ∧ N + i ≤ N + 4
    omega
  · exact False.elim h
theorem zns (hN : N = w.heap.size) (hs5 : w5.heap.size = N + 8) (hb5 : Below w.heap.size w w5) {B : World} (h : lBB w5 N B) : Below w.heap.size w B :=
  ⟨h.2.os.trans hb5.os, h.2.tape.trans hb5.tape, h.2.output.trans hb5.output, Nat.le_trans hb5.size h.2.size, fun k hk => (h.2.block k (Nat.lt_of_lt_of_le hk hb5.size) (by unfold lI itI; omega)).trans (hb5.block k hk)⟩
theorem zj6 (hN : N = w.heap.size) (hs5 : w5.heap.size = N + 8) (hb5 : Below w.heap.size w w5) {B W : World} (h : lBB w5 N B) {O' : Nat -> Prop} {D : List Deferred} {ρ : Option Nat} (hk : Kept (XL O' (lFix N) D ρ).R B W) : Below w.heap.size w W :=
  have hb := zns hN hs5 hb5 h
  ⟨hk.os.trans hb.os, hk.tape.trans hb.tape, hk.output.trans hb.output, Nat.le_trans hb.size hk.size, fun k hkl => (hk.block k (Nat.lt_of_lt_of_le hkl hb.size) fun hr => by have := (lR hr).1; omega).trans (hb.block k hkl)⟩
theorem lX_ok (hN : N = w.heap.size) (hO : ∀ g, O g -> g < w.heap.size) (hG : gmH w) (hs5 : w5.heap.size = N + 8) (hb5 : Below w.heap.size w w5) {B : World} (h : lBB w5 N B) (D : List Deferred) (ρ : Option Nat) : (XL (lO O N w5.heap.size) (lFix N) D ρ).Ok B := by
  have hs := h.1
  refine ⟨fun g hg => ?_, fun g hg => ?_, fun w' hk => zhA _ _ hG (zj6 hN hs5 hb5 h hk)⟩
  · have hg : O g ∨ (g = N + 5 ∨ g = N + 6 ∨ g = N + 7) ∨ g = w5.heap.size ∨ g = w5.heap.size + 1 := hg
    refine ⟨?_, fun hr => ?_⟩
    · rcases hg with h1 | h1
      · have := hO g h1; omega
      · omega
    · have := lR hr
      rcases hg with h1 | h1
      · have := hO g h1; omega
      · omega
  · have := lR hg
    omega
theorem lX_inv (hN : N = w.heap.size) (hG : gmH w) {O' : Nat -> Prop} {D : List Deferred} {ρ : Option Nat} {B : World} (ty : TypeId) : ginv B (XL O' (lFix N) D ρ).R ty := by
  have hl := zkX hG
  exact ⟨fun h => by have := lR h; omega, fun h => by have := lR h; omega⟩
def lJ (w5 : World) (O : Nat -> Prop) (N : Nat) (s : List UInt8) (k : Nat) (W : World) : Prop := ∃ (B : World) (β : Nat -> Value) (acc : List De) (fr : Nat), lBB w5 N B ∧ Sim B (XL (lO O N w5.heap.size) (lFix N) [] none) 0 ⟨[], sLE fr acc, 6⟩ β nA W ∧ acc.length ≤ 4096 ∧ k ≤ (segs s).length ∧ fr + zcq ((segs s).drop k) ≤ s.length + 1 ∧ libK ((segs s).drop k) fr acc = zaC s
def lN (w5 : World) (O : Nat -> Prop) (N : Nat) (s : List UInt8) (k : Nat) (y : List UInt8) (a' : Act) (W : World) : Prop := ∃ (B : World) (β : Nat -> Value) (acc : List De) (fr : Nat), lBB w5 N B ∧ Sim B (XL (lO O N w5.heap.size) (lFix N) [] none) 47 ⟨lPF, libE y (fr : Int) acc, 7⟩ β a' W ∧ acc.length ≤ 4096 ∧ k ≤ (segs s).length ∧ fr + zcq ((segs s).drop k) ≤ s.length + 1 ∧ libK ((segs s).drop k) fr acc = zaC s
def lJr (w5 : World) (O : Nat -> Prop) (N : Nat) (s : List UInt8) (W : World) : Prop := ∃ (er : Int × Int) (B : World) (β : Nat -> Value), zaC s = ([], er.1, er.2) ∧ lBB w5 N B ∧ Sim B (XL (lO O N w5.heap.size) (lFix N) [] none) 0 ⟨[], lRE er.1 er.2, 7⟩ β nA W
theorem znf {tmps : Array Value} {g2 g3 g4 : Nat} {W : World} {u : Value} {x y : Int} {t2 t3 t4 : TypeId} (hu : u.oneCell' = true) (h2 : tmps.getD 2 undef = .pointer (some ⟨g2, 0, none⟩)) (h3 : tmps.getD 3 undef = .pointer (some ⟨g3, 0, none⟩)) (h4 : tmps.getD 4 undef = .pointer (some ⟨g4, 0, none⟩))
    (c2 : W.heap[g2]? = some (.cells #[u] t2 (0, 0))) (c3 : W.heap[g3]? = some (.cells #[.int .i64 x] t3 (0, 0))) (c4 : W.heap[g4]? = some (.cells #[.int .i64 y] t4 (0, 0))) :
    (results Tryz.f19 tmps).run Tryz.prog W = .ok (.tuple #[u, .int .i64 x, .int .i64 y]) W := by
  have d2 := (zaO c2).1
  have d3 := (zaO c3).1
  have d4 := (zaO c4).1
  rw [Array.getD_eq_getD_getElem?] at h2 h3 h4
  simp [results, Tryz.f19, go_sem, h2, h3, h4, d2, d3, d4]
abbrev zqa : Ty := .tup (.slice de) (.tup i64 (.tup i64 .unit))
theorem zmR {w : World} {O : Nat -> Prop} {acc : List De} {x y : Int} {u : Value} (hu : RepD w O (.slice de) acc u) : zc2 w O 0 none zqa (acc, x, y, ()) (.tuple #[u, .int .i64 x, .int .i64 y]) := fun β =>
  ⟨[_, _, _], rfl, _, _, rfl, hu, _, _, rfl, rfl, _, _, rfl, rfl, rfl⟩
def ldco (D : Nat) : Deferred := { target := .collected D, args := #[] }
def zl9 (w : World) (O : Nat -> Prop) (r : List De × Int × Int) (e : Ending) (w' : World) : Prop := ∃ v, e = .returned v ∧ Below w.heap.size w w' ∧ zc2 w' O w.heap.size none zqa (r.1, r.2.1, r.2.2, ()) v
theorem lfin {W : World} {O' : Nat -> Prop} {tmps : Array Value} {D : Nat} {u : Value} {x y : Int} {acc : List De} (hN : N = w.heap.size) (hO : ∀ g, O g -> O' g) (hD : O' D) (hlt : N + 2 < D) (hbel : Below w.heap.size w W) (hd : W.heap[D]? = some (.deferred (some []))) (hu : u.oneCell' = true) (h2 : tmps.getD 2 undef = .pointer (some ⟨N, 0, none⟩)) (h3 : tmps.getD 3 undef = .pointer (some ⟨N + 1, 0, none⟩)) (h4 : tmps.getD 4 undef = .pointer (some ⟨N + 2, 0, none⟩))
    (c2 : W.heap[N]? = some (.cells #[u] t2 (0, 0))) (c3 : W.heap[N + 1]? = some (.cells #[.int .i64 x] t3 (0, 0))) (c4 : W.heap[N + 2]? = some (.cells #[.int .i64 y] t4 (0, 0))) (hr : RepD W O' (.slice de) acc u) :
    LeavesInM Fence.wide 1 Tryz.prog Tryz.f19 tmps (zl9 w O (acc, x, y)) [ldco D] .returning W := by
  refine ⟨(by intro h; cases h), .inl ⟨D, _, rfl, run_takeDeferred hd, ?_⟩⟩
  have hk : Kept (fun g => g = D) W (W.putObj D (.deferred none)) := zct _ rfl
  have hlD := (Array.getElem?_eq_some_iff.1 hd).1
  have hl : ∀ g (o : Obj), W.heap[g]? = some o -> g ≠ D -> (W.putObj D (.deferred none)).heap[g]? = some o := fun g o hg hne => (hk.block g (Array.getElem?_eq_some_iff.1 hg).1 hne).trans hg
  refine ⟨_, znf hu h2 h3 h4 (hl _ _ c2 (by omega)) (hl _ _ c3 (by omega)) (hl _ _ c4 (by omega)), _, rfl, ?_, ?_⟩
  · refine ⟨hk.os.trans hbel.os, hk.tape.trans hbel.tape, hk.output.trans hbel.output, Nat.le_trans hbel.size hk.size, fun k hkl => ?_⟩
    have h1 : k < W.heap.size := Nat.lt_of_lt_of_le hkl hbel.size
    exact (hk.block k h1 (by omega)).trans (hbel.block k hkl)
  · exact zmR (RepD.keep ⟨hk.size, fun g hg hn => hk.block g hg fun e => hn (e ▸ hD), fun g _ hg => hO g hg⟩ hr)
end
end Go.Proofs.YtpeaigpfddalcaaGreatDoor
namespace Go.Proofs.YtpeaigpfddalcaaGreatDoor
open Go Go.RowKit
set_option linter.unusedSimpArgs false
set_option linter.unusedVariables false
attribute [local go_sem] Oper.semAt_some
set_option maxRecDepth 100000
section
variable {w w5 : World} {O : Nat -> Prop} {N : Nat} {s : List UInt8} {t0 t1 t2 t3 t4 : TypeId} {a5 : Act}
theorem zhQ {B W : World} {O' : Nat -> Prop} {D : List Deferred} {ρ : Option Nat} {n : Nat} {σ : AS} {β : Nat -> Value} {a : Act} (h : Sim B (XL O' (lFix N) D ρ) n σ β a W) {E : Owns} {m : Nat} (hf : Fit σ ⟨[], E, m⟩) (hm : 5 ≤ m) : Sim B (XL O' (lFix N) [] none) 0 ⟨[], E, m⟩ β nA W :=
  (h.fit hf hm).act (X' := XL O' (lFix N) [] none) (a' := nA) rfl rfl rfl rfl rfl (F := []) zff rfl
theorem zni {y : List UInt8} {r : List (List UInt8)} {fr : Nat} {acc : List De} : libK (y :: r) fr acc = match zb6 y fr acc with
    | .error e => ([], e.1, e.2)
    | .ok acc' => libK r (fr + y.length + 1) acc' := rfl
set_option maxHeartbeats 1000000 in
theorem zng (hN : N = w.heap.size) (hO : ∀ g, O g -> g < w.heap.size) (hG : gmH w) (hlen : s.length ≤ 1048576) (hs5 : w5.heap.size = N + 8) (hb5 : Below w.heap.size w w5)
    (b0 : w5.heap[N]? = some (.cells #[.slice none 0 0] tD (0, 0))) (b1 : w5.heap[N + 1]? = some (.cells #[.int .i64 0] t1 (0, 0))) (b2 : w5.heap[N + 2]? = some (.cells #[.int .i64 0] t2 (0, 0))) (b3 : w5.heap[N + 3]? = some (.cells #[.slice none 0 0] tD (0, 0))) (b4 : w5.heap[N + 4]? = some (.cells #[.int .i64 0] t4 (0, 0)))
    (i0 : w5.heap[N + 5]? = some (.cells #[.string ⟨s.toArray⟩] 9 (0, 0))) (i1 : w5.heap[N + 6]? = some (.cells #[.string ⟨#[10]⟩] 9 (0, 0))) (i2 : w5.heap[N + 7]? = some (.cells #[.int .i64 0] 3 (0, 0)))
    (hsz : a5.tmps.size = 47) (e2 : a5.tmps.getD 2 undef = .pointer (some ⟨N, 0, none⟩)) (e3 : a5.tmps.getD 3 undef = .pointer (some ⟨N + 1, 0, none⟩)) (e4 : a5.tmps.getD 4 undef = .pointer (some ⟨N + 2, 0, none⟩)) (e5 : a5.tmps.getD 5 undef = .pointer (some ⟨N + 3, 0, none⟩)) (e6 : a5.tmps.getD 6 undef = .pointer (some ⟨N + 4, 0, none⟩))
    (e14 : a5.eval (.tmp 14) = .func (.func 145) #[] #[.pointer (some ⟨N + 6, 0, none⟩), .pointer (some ⟨N + 5, 0, none⟩), .pointer (some ⟨N + 7, 0, none⟩)]) (hdf : a5.defers = []) :
    zfa Tryz.prog 19 (.rangeFunc (.tmp 14) #[15] lAsgn lBody) (fun e a w' => (e = .normal ∨ e = .ret) ∧ Exit.then (zfa Tryz.prog 19 lTail (bodyPostM Fence.wide 1 Tryz.prog Tryz.f19 (zl9 w O (zaC s)))) (bodyPostM Fence.wide 1 Tryz.prog Tryz.f19 (zl9 w O (zaC s))) e a w') a5 w5 := by
  have hP : zaC s = libK (segs s) 0 [] := if_neg (by omega)
  have hXok : ∀ B D ρ, lBB w5 N B -> (XL (lO O N w5.heap.size) (lFix N) D ρ).Ok B := fun B D ρ h => lX_ok hN hO hG hs5 hb5 h D ρ
  have hsame : ∀ {B A C : World} {ρ ρ' : Option Nat} {D D' : List Deferred} {n n' : Nat} {σ σ' : AS} {β β' : Nat -> Value} {a a' : Act}, lBB w5 N B -> Sim B (XL (lO O N w5.heap.size) (lFix N) D ρ) n σ β a A -> Sim B (XL (lO O N w5.heap.size) (lFix N) D' ρ') n' σ' β' a' C -> SameOn (lI N w5.heap.size) (w5.heap.size + 2) A C := fun hBB h h' => by
    have := zlu h h' (fun g hr => hr) (hXok _ _ _ hBB) (I := lI N w5.heap.size) (fun g hg => .inr hg)
    rwa [hBB.1] at this
  refine zgZ (m := 1) e14 Tryz.call145 (zjN (N + 5) (N + 6) (N + 7) s w5 (by omega) (by omega) i0 i1 i2) (Below.refl _ _) ?_ (lJ w5 O N s) (lJr w5 O N s) (lN w5 O N s) ?_ ?_ ?_ ?_ ?_ ?_ ?_ ?_
  · intro k hk
    have hk : k = N + 5 ∨ k = N + 6 ∨ k = N + 7 := hk
    omega
  · rintro k A C ⟨B, β, acc, fr, hBB, hS, h1, h2, h3, h4⟩ hk
    obtain ⟨B', hs', hk', hS'⟩ := hS.outside (hXok _ _ _ hBB) (I := lI N w5.heap.size) (fun g hg => .inr hg) hk
    exact ⟨B', β, acc, fr, ⟨hs'.trans hBB.1, hBB.2.trans hk'⟩, hS', h1, h2, h3, h4⟩
  · rintro A C ⟨er, B, β, hpe, hBB, hS⟩ hk
    obtain ⟨B', hs', hk', hS'⟩ := hS.outside (hXok _ _ _ hBB) (I := lI N w5.heap.size) (fun g hg => .inr hg) hk
    exact ⟨er, B', β, hpe, ⟨hs'.trans hBB.1, hBB.2.trans hk'⟩, hS'⟩
  · rintro k y a' A C ⟨B, β, acc, fr, hBB, hS, h1, h2, h3, h4⟩ hk
    obtain ⟨B', hs', hk', hS'⟩ := hS.outside (hXok _ _ _ hBB) (I := lI N w5.heap.size) (fun g hg => .inr hg) hk
    exact ⟨B', β, acc, fr, ⟨hs'.trans hBB.1, hBB.2.trans hk'⟩, hS', h1, h2, h3, h4⟩
  · intro W1 hb hs1
    have hBB : lBB w5 N W1 := ⟨hs1, ⟨hb.os, hb.tape, hb.output, hb.size, fun k hk _ => hb.block k hk⟩⟩
    have hl : ∀ g (o : Obj), w5.heap[g]? = some o -> W1.heap[g]? = some o := fun g o hg => (hb.block g (Array.getElem?_eq_some_iff.1 hg).1).trans hg
    let β : Nat -> Value := fun i => .pointer (some ⟨lFix N i, 0, none⟩)
    have hS0 : Sim W1 (XL (lO O N w5.heap.size) (lFix N) [] none) 0 ⟨[], [(0, some (.hbox tD [⟨.lit, .slice none 0 0⟩])), (1, some (.box i64 (0 : Int))), (2, some (.box i64 (0 : Int))), (3, some (.hbox tD [⟨.lit, .slice none 0 0⟩])), (4, some (.box i64 (0 : Int)))], 5⟩ β nA W1 := by
      refine Sim.boxes (X := XL (lO O N w5.heap.size) (lFix N) [] none) rfl rfl (fun i _ => rfl) ?_ ?_ zff rfl
      · intro i j hi hj hij
        have hij : N + i = N + j := hij
        omega
      · intro i o h
        rw [zaf] at h
        split at h
        · rename_i hi; subst hi; cases h
          exact ⟨by show 0 < 5; omega, rfl, ⟨N, [_], rfl, Nat.zero_le _, hl _ _ b0, _, [], rfl, rfl, rfl, rfl⟩, fun vs e v hv => by cases e; rw [List.mem_singleton] at hv; subst hv; exact Nat.zero_le _⟩
        rw [zaf] at h
        split at h
        · rename_i _ hi; subst hi; cases h
          exact ⟨by show 1 < 5; omega, rfl, ⟨N + 1, [_], _, rfl, Nat.zero_le _, hl _ _ b1, rfl⟩, fun vs e => by cases e⟩
        rw [zaf] at h
        split at h
        · rename_i _ _ hi; subst hi; cases h
          exact ⟨by show 2 < 5; omega, rfl, ⟨N + 2, [_], _, rfl, Nat.zero_le _, hl _ _ b2, rfl⟩, fun vs e => by cases e⟩
        rw [zaf] at h
        split at h
        · rename_i _ _ _ hi; subst hi; cases h
          exact ⟨by show 3 < 5; omega, rfl, ⟨N + 3, [_], rfl, Nat.zero_le _, hl _ _ b3, _, [], rfl, rfl, rfl, rfl⟩, fun vs e v hv => by cases e; rw [List.mem_singleton] at hv; subst hv; exact Nat.zero_le _⟩
        rw [zaf] at h
        split at h
        · rename_i _ _ _ _ hi; subst hi; cases h
          exact ⟨by show 4 < 5; omega, rfl, ⟨N + 4, [_], _, rfl, Nat.zero_le _, hl _ _ b4, rfl⟩, fun vs e => by cases e⟩
        · cases h
    obtain ⟨β', hS1⟩ := Sim.nilLeaf 3 0 37 de rfl rfl rfl _ _ _ hS0
    refine ⟨W1, β', [], 0, hBB, zhQ hS1 ⟨trivial, ⟨rfl, rfl, rfl, rfl, rfl, rfl, trivial⟩, rfl, rfl⟩ (by omega), by simp, Nat.zero_le _, ?_, hP.symm⟩
    rw [List.drop_zero, zdd]
    omega
  · rintro l k y W ⟨B, β, acc, fr, hBB, hS, h1, h2, h3, h4⟩ hy hsz2
    obtain ⟨hkl, hyk⟩ := List.getElem?_eq_some_iff.1 hy
    have hd : (segs s).drop k = y :: (segs s).drop (k + 1) := by rw [<- hyk]; exact List.drop_eq_getElem_cons hkl
    have h3' := h3
    rw [hd, zcq] at h3'
    have hb := fun k (hk : k < 5) => (hS.fix.2 k hk).1
    have hsim := hS.act (X' := XL (lO O N w5.heap.size) (lFix N) [] (some l)) (m := 47) (a' := znt a5 (.string ⟨y.toArray⟩)) rfl rfl rfl (by simp [znt, hsz]) rfl (F := (15, ⟨.str, y⟩) :: lPF0) (zbo (by rw [zdg hsz]; exact ⟨rfl, by show y.length ≤ maxLen; unfold maxLen; omega⟩) (zbo ⟨_, hb 0 (by omega), by rw [zdg hsz]; exact e2⟩ (zbo ⟨_, hb 1 (by omega), by rw [zdg hsz]; exact e3⟩ (zbo ⟨_, hb 2 (by omega), by rw [zdg hsz]; exact e4⟩ (zbo ⟨_, hb 3 (by omega), by rw [zdg hsz]; exact e5⟩ (zbo ⟨_, hb 4 (by omega), by rw [zdg hsz]; exact e6⟩ zff)))))) rfl
    refine Go.wpIn_mono (znq (hXok B [] (some l) hBB) y fr acc β _ W hsim) ?_
    rintro e a' W' ⟨σ', β', h', rfl, hf⟩
    have hso := hsame hBB hS h'
    have h6 := h'.fit hf (by show 5 ≤ 7; omega)
    have h7 := h6.renameK (L := lRn) (m := 7) rfl rfl (by show 5 ≤ 7; omega) rfl rfl
    refine ⟨rfl, ⟨B, _, acc, fr, hBB, (h7.fit (σ' := ⟨lPF, libE y (fr : Int) acc, 7⟩) ⟨⟨rfl, rfl, rfl, rfl, rfl, rfl, trivial⟩, ⟨rfl, rfl, rfl, rfl, rfl, rfl, rfl, trivial⟩, rfl, rfl⟩ (by show 5 ≤ 7; omega)).act (X' := XL (lO O N w5.heap.size) (lFix N) [] none) rfl rfl rfl h7.sz h7.df (fun sl => (h7.fit (σ' := ⟨lPF, libE y (fr : Int) acc, 7⟩) ⟨⟨rfl, rfl, rfl, rfl, rfl, rfl, trivial⟩, ⟨rfl, rfl, rfl, rfl, rfl, rfl, rfl, trivial⟩, rfl, rfl⟩ (by show 5 ≤ 7; omega)).fr sl) rfl, h1, h2, h3, h4⟩, hso⟩
  · rintro l k y W a' hy hsz2 ⟨B, β, acc, fr, hBB, hS, h1, h2, h3, h4⟩
    obtain ⟨hkl, hyk⟩ := List.getElem?_eq_some_iff.1 hy
    have hd : (segs s).drop k = y :: (segs s).drop (k + 1) := by rw [<- hyk]; exact List.drop_eq_getElem_cons hkl
    rw [hd, zcq] at h3
    rw [hd, zni] at h4
    have hsim := hS.act (X' := XL (lO O N w5.heap.size) (lFix N) [] (some l)) rfl rfl rfl hS.sz hS.df hS.fr rfl
    refine Go.wpIn_mono (zo1 (by omega) (by omega) (by omega) (hXok B [] (some l) hBB) rfl rfl (fun ty => lX_inv hN hG ty) (fun er he => ⟨(zh2 he).1, by have := (zh2 he).2; omega⟩) β _ W hsim) ?_
    rintro e a3 W' ⟨σ', β', h', hR⟩
    have hso := hsame hBB hS h'
    refine ⟨?_, hso⟩
    cases hst : zb6 y fr acc with
    | error er =>
      rw [hst] at hR h4
      obtain ⟨rfl, hf⟩ := hR
      exact .inr ⟨rfl, er, B, β', h4.symm, hBB, zhQ h' hf (by omega)⟩
    | ok acc' =>
      rw [hst] at hR h4
      obtain ⟨rfl, hf⟩ := hR
      have h6 := (h'.fit hf (by show 5 ≤ 7; omega)).fit (σ' := ⟨[], [(0, some (.hbox tD [⟨.lit, .slice none 0 0⟩])), (1, some (.box i64 (0 : Int))), (2, some (.box i64 (0 : Int))), (3, some (zmL 6)), (4, some (.box i64 ((fr + y.length + 1 : Nat) : Int))), (6, some (.buf 37 de acc'))], 7⟩) ⟨trivial, ⟨rfl, rfl, rfl, rfl, rfl, rfl, trivial⟩, rfl, rfl⟩ (by show 5 ≤ 7; omega)
      have h7 := h6.renameK (L := lRn) (m := 6) rfl rfl (by show 5 ≤ 6; omega) rfl rfl
      exact .inl ⟨rfl, B, _, acc', fr + y.length + 1, hBB, zhQ h7 ⟨trivial, ⟨rfl, rfl, rfl, rfl, rfl, rfl, trivial⟩, rfl, rfl⟩ (by omega), zmp h1 hst, hkl, by omega, h4⟩
  · rintro W ⟨B, β, acc, fr, hBB, hS, h1, h2, h3, h4⟩ hdef
    refine ⟨.inl rfl, ?_⟩
    rw [List.drop_length] at h4
    have h4 : (acc, (0 : Int), (0 : Int)) = zaC s := h4
    have hb := fun k (hk : k < 5) => (hS.fix.2 k hk).1
    have hsim := hS.act (X' := XL (lO O N w5.heap.size) (lFix N) [ldco w5.heap.size] none) (m := 47) (a' := { a5 with defers := { target := .collected w5.heap.size, args := #[] } :: a5.defers }) rfl rfl rfl hsz (by rw [hdf]; rfl) (F := lPF0) (zbo ⟨_, hb 0 (by omega), e2⟩ (zbo ⟨_, hb 1 (by omega), e3⟩ (zbo ⟨_, hb 2 (by omega), e4⟩ (zbo ⟨_, hb 3 (by omega), e5⟩ (zbo ⟨_, hb 4 (by omega), e6⟩ zff))))) rfl
    refine zb4 (m := 0) (Go.wpIn_mono (znb (hXok _ _ _ hBB) fr acc β _ W hsim) ?_)
    rintro e a' W' ⟨σ', β', h', rfl, hf⟩
    have h6 := h'.fit hf (by show 5 ≤ 6; omega)
    have hso := hsame hBB hS h6
    obtain ⟨u, q0, q1, hu⟩ := znC h6 (i := 0) (by show 0 < 5; omega) rfl
    obtain ⟨c1, y1, q2, q3⟩ := zlf h6 (i := 1) (by show 1 < 5; omega) rfl
    obtain ⟨c2, y2, q4, q5⟩ := zlf h6 (i := 2) (by show 2 < 5; omega) rfl
    have q3 : c1 = [.int .i64 0] := q3
    have q5 : c2 = [.int .i64 0] := q5
    subst q3; subst q5
    have hb6 := fun k (hk : k < 5) => (h6.fix.2 k hk).1
    have k2 : a'.tmps.getD 2 undef = .pointer (some ⟨N, 0, none⟩) := by
      obtain ⟨g, r1, r2⟩ : ∃ g, zag (β' 0) = some g ∧ a'.tmps.getD 2 undef = .pointer (some ⟨g, 0, none⟩) := h6.fr 2
      rw [hb6 0 (by omega)] at r1
      cases r1
      exact r2
    have k3 : a'.tmps.getD 3 undef = .pointer (some ⟨N + 1, 0, none⟩) := by
      obtain ⟨g, r1, r2⟩ : ∃ g, zag (β' 1) = some g ∧ a'.tmps.getD 3 undef = .pointer (some ⟨g, 0, none⟩) := h6.fr 3
      rw [hb6 1 (by omega)] at r1
      cases r1
      exact r2
    have k4 : a'.tmps.getD 4 undef = .pointer (some ⟨N + 2, 0, none⟩) := by
      obtain ⟨g, r1, r2⟩ : ∃ g, zag (β' 2) = some g ∧ a'.tmps.getD 4 undef = .pointer (some ⟨g, 0, none⟩) := h6.fr 4
      rw [hb6 2 (by omega)] at r1
      cases r1
      exact r2
    show LeavesInM Fence.wide 1 Tryz.prog Tryz.f19 a'.tmps (zl9 w O (zaC s)) a'.defers .returning W'
    rw [h6.df, <- h4]
    exact lfin hN (O' := OSet (XL (lO O N w5.heap.size) (lFix N) [ldco w5.heap.size] none) (sLT acc).E β') (fun g hg => .inl (.inl hg)) (.inl (.inr (.inr (.inl rfl)))) (by omega) (zj6 hN hs5 hb5 hBB h6.bel) ((hso.block _ (.inr (.inl rfl))).trans hdef) q1 k2 k3 k4 q0 q2 q4 hu
  · rintro W ⟨er, B, β, hpe, hBB, hS⟩ hdef
    refine ⟨.inr rfl, ?_⟩
    obtain ⟨u, q0, q1, hu⟩ := znC hS (i := 0) (by show 0 < 5; omega) rfl
    have hu : u = .slice none 0 0 := hu
    subst hu
    obtain ⟨c1, y1, q2, q3⟩ := zlf hS (i := 1) (by show 1 < 5; omega) rfl
    obtain ⟨c2, y2, q4, q5⟩ := zlf hS (i := 2) (by show 2 < 5; omega) rfl
    have q3 : c1 = [.int .i64 er.1] := q3
    have q5 : c2 = [.int .i64 er.2] := q5
    subst q3; subst q5
    show LeavesInM Fence.wide 1 Tryz.prog Tryz.f19 a5.tmps (zl9 w O (zaC s)) (ldco w5.heap.size :: a5.defers) .returning W
    rw [hdf, hpe]
    exact lfin (acc := []) hN (O' := OSet (XL (lO O N w5.heap.size) (lFix N) [] none) (lRE er.1 er.2) β) (fun g hg => .inl (.inl hg)) (.inl (.inr (.inr (.inl rfl)))) (by omega) (zj6 hN hs5 hb5 hBB hS.bel) hdef q1 e2 e3 e4 q0 q2 q4 ⟨_, rfl, .inl ⟨rfl, none, 0, rfl, Nat.zero_le _⟩⟩
end
end Go.Proofs.YtpeaigpfddalcaaGreatDoor
namespace Go.Proofs.YtpeaigpfddalcaaGreatDoor
open Go Go.RowKit
set_option linter.unusedSimpArgs false
set_option linter.unusedVariables false
attribute [local go_sem] Oper.semAt_some
set_option maxRecDepth 100000
theorem zit {P : Program} {f : FuncId} {Q : Exit -> Act -> World -> Prop} {a : Act} {w : World} {id : Nat} {c : Code} (h : zfa P f c (fun e a w => (e = .normal ∨ e = .ret) ∧ Q e a w) a w) : zfa P f (.block id c) Q a w := by
  intro b k cs hb hro
  have h0 : (lone (b.atR a (.code (.block id c) :: k)) cs w).fenced P Fence.wide := fenced_wide P _
  obtain ⟨e, a1, w1, ⟨he, hq⟩, harr⟩ := h b (.inBlock id :: k) cs hb hro
  rcases he with rfl | rfl
  · exact ⟨.normal, a1, w1, hq, .head h0 stepR_block (StepsIn.trans harr (.one (fenced_wide P _) stepR_inBlock))⟩
  · exact ⟨_, a1, w1, hq, .of_steps (.one h0 stepR_block) harr⟩
noncomputable def zkl : Ctr := { args := [.str], pre := fun _ => [], res := zqa, own := none, out := fun x => ((zaC x.1).1, (zaC x.1).2.1, (zaC x.1).2.2, ()) }
set_option maxHeartbeats 1000000 in
theorem zgo : CtrOk Tryz.prog gmH 19 zkl := by
  refine ⟨Tryz.call19, fun w O xs vs hO hr hp hG => ?_⟩
  obtain ⟨(s : List UInt8), _⟩ := xs
  obtain ⟨v1, r1, rfl, e1, rfl⟩ := hr
  have e1 : [v1] = [Value.string ⟨s.toArray⟩] ∧ s.length ≤ maxLen := e1
  obtain ⟨e1, hmax⟩ := e1
  cases e1
  refine callsIn_wide.1 (zef (m := 1) Tryz.func19 rfl ?_)
  simp only [Tryz.ntmps19, List.size_toArray, List.length_cons, List.length_nil, Nat.reduceAdd, Nat.reduceSub, Array.replicate_succ, Array.replicate_zero, List.push_toArray, List.append_toArray, List.nil_append, List.cons_append]
  change zfa _ _ _ (bodyPostM Fence.wide 1 Tryz.prog Tryz.f19 (zl9 w O (zaC s))) _ _
  generalize hQ : bodyPostM Fence.wide 1 Tryz.prog Tryz.f19 _ = Q
  refine zbX (zb4 (m := 1) ?_)
  gi_wp2
  refine zbX (zb4 (m := 1) ?_)
  gi_wp2
  · rename_i hlong
    have hP : zaC s = ([], 0, 2) := if_pos (by omega)
    rw [<- hQ, hP]
    refine ⟨_, znf (g2 := w.heap.size) (g3 := w.heap.size + 1) (g4 := w.heap.size + 1 + 1) (u := .slice none 0 0) (x := 0) (y := 2) (t2 := tD) (t3 := 3) (t4 := 25) rfl rfl rfl rfl ?_ ?_ ?_, _, rfl, ((((Below.refl _ w).alloc (Nat.le_refl _) _).alloc (by simp) _).alloc (by simp; omega) _), zmR (acc := []) ⟨_, rfl, .inl ⟨rfl, none, 0, rfl, Nat.zero_le _⟩⟩⟩
    · exact zaM _ (zaM _ (zbD _ rfl))
    · exact zaM _ (zbD _ (by simp))
    · exact zbD _ (by simp)
  rename_i hshort
  have hlen : s.length ≤ 1048576 := by omega
  refine zbX (zb4 (m := 1) ?_)
  gi_wp2
  refine zbX (zb4 (m := 1) ?_)
  gi_wp2
  refine zbX (zbX (zb4 (m := 1) ?_))
  gi_wp2
  refine ⟨trivial, (callsIn_wide.2 (zhM _ _ _)).mono ?_⟩
  rintro e w' ⟨rfl, rfl⟩
  gi_wp2
  refine zit ?_
  obtain ⟨w4, hw4⟩ : ∃ w4 : World, w4 = (((((w.alloc (.cells #[.slice none 0 0] tD)).alloc (.cells #[.int .i64 0] 3)).alloc (.cells #[.int .i64 0] 25)).alloc (.cells #[.slice none 0 0] tD)).alloc (.cells #[.int .i64 0] 3)) := ⟨_, rfl⟩
  rw [<- hw4, <- hQ]
  have hs4 : w4.heap.size = w.heap.size + 5 := by rw [hw4]; simp
  have hb4 : Below w.heap.size w w4 := by rw [hw4]; exact ((((((Below.refl _ w).alloc (Nat.le_refl _) _).alloc (by simp) _).alloc (by simp; omega) _).alloc (by simp; omega) _).alloc (by simp; omega) _)
  have b0 : w4.heap[w.heap.size]? = some (.cells #[.slice none 0 0] tD (0, 0)) := by rw [hw4]; exact zaM _ (zaM _ (zaM _ (zaM _ (zbD _ rfl))))
  have b1 : w4.heap[w.heap.size + 1]? = some (.cells #[.int .i64 0] 3 (0, 0)) := by rw [hw4]; exact zaM _ (zaM _ (zaM _ (zbD _ (by simp))))
  have b2 : w4.heap[w.heap.size + 2]? = some (.cells #[.int .i64 0] 25 (0, 0)) := by rw [hw4]; exact zaM _ (zaM _ (zbD _ (by simp)))
  have b3 : w4.heap[w.heap.size + 3]? = some (.cells #[.slice none 0 0] tD (0, 0)) := by rw [hw4]; exact zaM _ (zbD _ (by simp))
  have b4 : w4.heap[w.heap.size + 4]? = some (.cells #[.int .i64 0] 3 (0, 0)) := by rw [hw4]; exact zbD _ (by simp)
  have hb5 : Below w.heap.size w (itW w4 ⟨s.toArray⟩ ⟨#[10]⟩) := hb4.trans ((((Below.refl _ w4).alloc (Nat.le_refl _) _).alloc (by simp) _).alloc (by simp; omega) _ |>.mono hb4.size)
  have i0 : (itW w4 ⟨s.toArray⟩ ⟨#[10]⟩).heap[w.heap.size + 5]? = some (.cells #[.string ⟨s.toArray⟩] 9 (0, 0)) := zaM _ (zaM _ (zbD _ hs4))
  have i1 : (itW w4 ⟨s.toArray⟩ ⟨#[10]⟩).heap[w.heap.size + 6]? = some (.cells #[.string ⟨#[10]⟩] 9 (0, 0)) := zaM _ (zbD _ (by simp [hs4]))
  have i2 : (itW w4 ⟨s.toArray⟩ ⟨#[10]⟩).heap[w.heap.size + 7]? = some (.cells #[.int .i64 0] 3 (0, 0)) := zbD _ (by simp [hs4])
  have hs5 : (itW w4 ⟨s.toArray⟩ ⟨#[10]⟩).heap.size = w.heap.size + 8 := by simp [itW, hs4]
  have hit : itV w4 = .func (.func 145) #[] #[.pointer (some ⟨w.heap.size + 6, 0, none⟩), .pointer (some ⟨w.heap.size + 5, 0, none⟩), .pointer (some ⟨w.heap.size + 7, 0, none⟩)] := by unfold itV; rw [hs4]
  have hl : ∀ g (o : Obj), w4.heap[g]? = some o -> (itW w4 ⟨s.toArray⟩ ⟨#[10]⟩).heap[g]? = some o := fun g o hg => zaM _ (zaM _ (zaM _ hg))
  exact zng rfl hO hG hlen hs5 hb5 (hl _ _ b0) (hl _ _ b1) (hl _ _ b2) (hl _ _ b3) (hl _ _ b4) i0 i1 i2 rfl rfl rfl rfl rfl rfl hit rfl
end Go.Proofs.YtpeaigpfddalcaaGreatDoor
namespace Go.Proofs.YtpeaigpfddalcaaGreatDoor
open Go Go.RowKit
set_option linter.unusedSimpArgs false
set_option linter.unusedVariables false
set_option maxRecDepth 10000
set_option maxRecDepth 100000
def tx_sA : List UInt8 := [100, 97, 121, 115, 32, 55, 32, 51, 32, 111, 114, 32, 40, 64, 102, 114, 101, 101, 32, 115, 104, 105, 102, 116, 32, 45, 49, 41]
def tx_sB : List UInt8 := [35, 32, 104, 111, 108, 105, 100, 97, 121, 115, 10, 102, 114, 101, 101, 32, 61, 32, 119, 101, 101, 107, 100, 97, 121, 115, 32, 40, 53, 32, 54, 41, 10, 10, 111, 114, 32, 61, 32, 64, 102, 114, 101, 101, 32, 115, 104, 105, 102, 116, 32, 49]
def tx_sC : List UInt8 := [102, 114, 101, 101, 32, 119, 101, 101, 107, 100, 97, 121, 115, 32, 40, 53, 41]
def ziB : List UInt8 := [100, 97, 121, 115, 32, 55, 32, 51, 32, 111, 114, 32, 64, 102, 114, 101, 101, 32, 115, 104, 105, 102, 116, 32, 45, 49]
def zoq : List UInt8 := [102, 114, 101, 101, 32, 61, 32, 119, 101, 101, 107, 100, 97, 121, 115, 32, 40, 53, 32, 54, 41, 10, 111, 114, 32, 61, 32, 64, 102, 114, 101, 101, 32, 115, 104, 105, 102, 116, 32, 49, 10]
def zqg : List UInt8 := [100, 97, 121, 115, 32, 48, 32, 51]
def zqf : List UInt8 := [109, 111, 110, 116, 104, 115, 32, 48, 32, 40, 50, 32, 50, 41]
def zqe : List UInt8 := [100, 97, 121, 115, 32, 48, 55, 32, 51]
def zqd : List UInt8 := [119, 101, 101, 107, 100, 97, 121, 115, 32, 40, 41]
def zqc : List UInt8 := [100, 97, 121, 115, 32, 55]
def zqb : List UInt8 := []
def zeC : List UInt8 := [102, 114, 101, 101]
def zmg : List UInt8 := [111, 114]
def sanR : List Nd := [(1, 0, 0, 0, 7, 3, [], [], ()), (18, 0, 0, 0, 0, 0, [], zeC, ()), (11, 0, 1, 0, -1, 0, [], [], ()), (9, 0, 0, 2, 0, 0, [], [], ())]
def sanL : List De := [(zeC, [(5, 0, 0, 0, 0, 0, [5, 6], [], ())], ()), (zmg, [(18, 0, 0, 0, 0, 0, [], zeC, ()), (11, 0, 0, 0, 1, 0, [], [], ())], ())]
theorem sanA : zbt tx_sA = (sanR, 0, 0) := by kernel_rfl
theorem san1 : zbt zqg = ([], 5, 1) := by kernel_rfl
theorem san2 : zbt zqf = ([], 12, 1) := by kernel_rfl
theorem san3 : zbt zqe = ([], 5, 3) := by kernel_rfl
theorem san4 : zbt zqd = ([], 10, 3) := by kernel_rfl
theorem san5 : zbt zqc = ([], 6, 3) := by kernel_rfl
theorem san6 : zbt zqb = ([], 0, 3) := by kernel_rfl
theorem sanF : fmtS sanR = (ziB, 0) := by kernel_rfl
theorem sanN : fmtS [] = ([], 1) := by kernel_rfl
theorem sanG : zbb sanL = (zoq, 0) := by kernel_rfl
def zo0 (y : List UInt8) : Bool := (!decide (y.take 1 = [35])) && decide (zbr isWh y < y.length)
theorem zkM (y : List UInt8) : zgt y = zo0 y := by
  unfold zgt zo0 zja
  rw [zdk]
  have : (decide (List.length ([35] : List UInt8) ≤ y.length) && decide (y.take (List.length ([35] : List UInt8)) = [35])) = decide (y.take 1 = [35]) := by
    cases y with
    | nil => rfl
    | cons c q => rw [decide_eq_true (by simp : List.length ([35] : List UInt8) ≤ (c :: q).length), Bool.true_and]; rfl
  rw [this]
def zox (y : List UInt8) (fr : Nat) (acc : List De) : Except (Int × Int) (List De) :=
  if zo0 y = true then
    if 4000 < y.length then .error ((fr : Int), 2)
    else match zdC y ((acc.length : Nat) : Int) with
      | .ok d => .ok (acc ++ [d])
      | .error e => if e.2 = 0 then .ok acc else .error ((fr : Int) + e.1, e.2)
  else .ok acc
theorem zow (y : List UInt8) (fr : Nat) (acc : List De) : zb6 y fr acc = zox y fr acc := by
  unfold zb6 zox
  rw [zkM]
  all_goals rfl
def libC : List (List UInt8) -> Nat -> List De -> List De × Int × Int
  | [], _, acc => (acc, 0, 0)
  | y :: r, fr, acc => match zox y fr acc with
    | .error e => ([], e.1, e.2)
    | .ok acc' => libC r (fr + y.length + 1) acc'
theorem znj : ∀ (l : List (List UInt8)) (fr : Nat) (acc : List De), libK l fr acc = libC l fr acc
  | [], _, _ => rfl
  | y :: r, fr, acc => by
    unfold libK libC
    rw [zow]
    cases zox y fr acc with
    | error e => rfl
    | ok a => exact znj r _ a
def ziV (s : List UInt8) : List De × Int × Int := if 1048576 < s.length then ([], 0, 2) else libC (segs s) 0 []
theorem zfH (s : List UInt8) : zaC s = ziV s := by
  unfold zaC ziV
  rw [znj]
theorem sanB : zaC tx_sB = (sanL, 0, 0) := (zfH _).trans (by kernel_rfl)
theorem sanC : zaC tx_sC = ([], 5, 3) := (zfH _).trans (by kernel_rfl)
def zcb (s : List UInt8) (at' e : Int) : Bool := (((((zbt s).1.length : Nat) : Int) == 0) && ((zbt s).2.1 == at')) && ((zbt s).2.2 == e)
def zpW : Ctr := { args := [.str, i64, i64], pre := fun _ => [], res := .bool, own := none, out := fun x => zcb x.1 x.2.1 x.2.2.1 }
def kPa : Kn := { gmK with C := [(16, zn3)] }
theorem zkR : KnOk Tryz.prog gmH kPa := zaj.with (.cons zkH .nil)
theorem zop : CtrOk Tryz.prog gmH 42 zpW := by
  refine zaq (K := kPa) zkR Tryz.func42 rfl rfl Tryz.call42 rfl (by decide) (by intro h; cases h) ?_
  rintro w0 X hX ⟨(s : List UInt8), (at' : Int), (e : Int), _⟩ hp
  change AWP _ _ _ _ _ ⟨[(0, ⟨.str, s⟩), (1, ⟨i64, at'⟩), (2, ⟨i64, e⟩)], [], 0⟩ _
  (repeat (first | refine zae ?_ | refine zac ?_ | refine zab ?_ | refine zad ?_)); refine zaa hX zkR rfl ?_ ?_
  · trivial
  (repeat (first | refine zae ?_ | refine zac ?_ | refine zab ?_ | refine zad ?_)); refine zaa hX zkR rfl ?_ ?_
  · trivial
  (repeat (first | refine zae ?_ | refine zac ?_ | refine zab ?_ | refine zad ?_)); refine zaa hX zkR rfl ?_ ?_
  · repeat' (first | exact trivial | assumption | (refine ⟨?_, ?_⟩) | (intro _) | exact Nat.le_of_ble_eq_true rfl | exact Int.natCast_nonneg _ | (simp_all [allP]; done))
  refine AWP.ret ⟨.inr rfl, zay rfl trivial rfl rfl ?_⟩
  show (bif (bif ((((zbt s).1.length : Nat) : Int) == 0) then (zbt s).2.1 == at' else false) then (zbt s).2.2 == e else false) = zcb s at' e
  rw [zdm, zdm]
  rfl
def zn2 : Ctr := { args := [], pre := fun _ => [], res := .bool, own := none, out := fun _ => true }
noncomputable def kSan : Kn := { gmK with C := [(16, zn3), (24, cFmt), (19, zkl), (26, cFmtL), (18, zrn), (42, zpW)] }
theorem zcH : KnOk Tryz.prog gmH kSan := zaj.with (.cons zkH <| .cons zjj <| .cons zgo <| .cons znI <| .cons zmF <| .cons zop .nil)
theorem vStr {x y : List UInt8} (h : x = y) : (⟨.str, x⟩ : V) = ⟨.str, y⟩ := by rw [h]
theorem vRul {x y : List Nd} (h : x = y) : (⟨.slice nd, x⟩ : V) = ⟨.slice nd, y⟩ := by rw [h]
theorem vDes {x y : List De} (h : x = y) : (⟨.slice de, x⟩ : V) = ⟨.slice de, y⟩ := by rw [h]
set_option maxHeartbeats 2000000 in
theorem zmE : CtrOk Tryz.prog gmH 15 zn2 := by
  refine zaq (K := kSan) zcH Tryz.func15 rfl rfl Tryz.call15 rfl (by decide) (by intro h; cases h) ?_
  rintro w0 X hX _ hp
  change AWP _ _ _ _ _ ⟨[], [], 0⟩ _
  (repeat (first | refine zae ?_ | refine zac ?_ | refine zab ?_ | refine zad ?_)); refine zaa hX zcH rfl ?_ ?_
  · trivial
  (repeat (first | refine zae ?_ | refine zac ?_ | refine zab ?_ | refine zad ?_)); refine zaa hX zcH rfl ?_ ?_
  · trivial
  refine zan (σ' := ⟨[(1, ⟨.slice nd, sanR⟩), (3, ⟨i64, (0 : Int)⟩)], [], 0⟩) ⟨⟨vRul (congrArg (fun x => x.1) sanA), vI64 (congrArg (fun x => x.2.2) sanA), trivial⟩, trivial, rfl, rfl⟩ ?_
  (repeat (first | refine zae ?_ | refine zac ?_ | refine zab ?_ | refine zad ?_)); refine zaa hX zcH rfl ?_ ?_
  · trivial
  refine AWP.frz hX 4 ?_
  refine zan (σ' := ⟨[(1, ⟨.slice nd, sanR⟩), (3, ⟨i64, (0 : Int)⟩), (4, ⟨.slice nd, sanR⟩)], [], 1⟩) ⟨⟨rfl, rfl, rfl, trivial⟩, trivial, rfl, rfl⟩ ?_
  (repeat (first | refine zae ?_ | refine zac ?_ | refine zab ?_ | refine zad ?_)); refine zaa hX zcH rfl ?_ ?_
  · trivial
  refine zan (σ' := ⟨[(1, ⟨.slice nd, sanR⟩), (3, ⟨i64, (0 : Int)⟩), (4, ⟨.slice nd, sanR⟩), (5, ⟨.str, ziB⟩), (6, ⟨i64, (0 : Int)⟩)], [], 1⟩) ⟨⟨rfl, rfl, rfl, vStr (congrArg (fun x => x.1) sanF), vI64 (congrArg (fun x => x.2) sanF), trivial⟩, trivial, rfl, rfl⟩ ?_
  (repeat (first | refine zae ?_ | refine zac ?_ | refine zab ?_ | refine zad ?_)); refine zaa hX zcH rfl ?_ ?_
  · trivial
  refine zan (σ' := ⟨[(1, ⟨.slice nd, sanR⟩), (3, ⟨i64, (0 : Int)⟩), (4, ⟨.slice nd, sanR⟩), (5, ⟨.str, ziB⟩), (6, ⟨i64, (0 : Int)⟩), (7, ⟨.slice de, sanL⟩), (9, ⟨i64, (0 : Int)⟩)], [], 1⟩) ⟨⟨rfl, rfl, rfl, rfl, rfl, vDes (congrArg (fun x => x.1) sanB), vI64 (congrArg (fun x => x.2.2) sanB), trivial⟩, trivial, rfl, rfl⟩ ?_
  (repeat (first | refine zae ?_ | refine zac ?_ | refine zab ?_ | refine zad ?_)); refine zaa hX zcH rfl ?_ ?_
  · trivial
  refine zan (σ' := ⟨[(1, ⟨.slice nd, sanR⟩), (3, ⟨i64, (0 : Int)⟩), (4, ⟨.slice nd, sanR⟩), (5, ⟨.str, ziB⟩), (6, ⟨i64, (0 : Int)⟩), (7, ⟨.slice de, sanL⟩), (9, ⟨i64, (0 : Int)⟩), (11, ⟨i64, (5 : Int)⟩), (12, ⟨i64, (3 : Int)⟩)], [], 1⟩) ⟨⟨rfl, rfl, rfl, rfl, rfl, rfl, rfl, vI64 (congrArg (fun x => x.2.1) sanC), vI64 (congrArg (fun x => x.2.2) sanC), trivial⟩, trivial, rfl, rfl⟩ ?_
  (repeat (first | refine zae ?_ | refine zac ?_ | refine zab ?_ | refine zad ?_)); refine zaa hX zcH rfl ?_ ?_
  · trivial
  refine zan (σ' := ⟨[(1, ⟨.slice nd, sanR⟩), (3, ⟨i64, (0 : Int)⟩), (4, ⟨.slice nd, sanR⟩), (5, ⟨.str, ziB⟩), (6, ⟨i64, (0 : Int)⟩), (7, ⟨.slice de, sanL⟩), (9, ⟨i64, (0 : Int)⟩), (11, ⟨i64, (5 : Int)⟩), (12, ⟨i64, (3 : Int)⟩), (14, ⟨i64, (1 : Int)⟩)], [], 1⟩) ⟨⟨rfl, rfl, rfl, rfl, rfl, rfl, rfl, rfl, rfl, vI64 (congrArg (fun x => x.2) sanN), trivial⟩, trivial, rfl, rfl⟩ ?_
  (repeat (first | refine zae ?_ | refine zac ?_ | refine zab ?_ | refine zad ?_)); refine zaa hX zcH rfl ?_ ?_
  · repeat' (first | exact trivial | assumption | (refine ⟨?_, ?_⟩) | (intro _) | exact Nat.le_of_ble_eq_true rfl | exact Int.natCast_nonneg _ | (simp_all [allP]; done))
  refine zai rfl (fun hb => ?_) (fun _ => ?_)
  · have hb : false = true := hb
    cases hb
  refine zac ?_
  (repeat (first | refine zae ?_ | refine zac ?_ | refine zab ?_ | refine zad ?_)); refine zaa hX zcH rfl ?_ ?_
  · trivial
  refine zan (σ' := ⟨[(1, ⟨.slice nd, sanR⟩), (4, ⟨.slice nd, sanR⟩), (5, ⟨.str, ziB⟩), (7, ⟨.slice de, sanL⟩), (15, ⟨.str, zoq⟩), (16, ⟨i64, (0 : Int)⟩)], [], 1⟩) ⟨⟨rfl, rfl, rfl, rfl, vStr (congrArg (fun x => x.1) sanG), vI64 (congrArg (fun x => x.2) sanG), trivial⟩, trivial, rfl, rfl⟩ ?_
  have hs : ziL sanR sanR = true := zgd.2 rfl
  have b0 : (0 : Int) < ((sanL.length : Nat) : Int) := by decide
  have b1 : (1 : Int) < ((sanL.length : Nat) : Int) := by decide
  (repeat (first | refine zae ?_ | refine zac ?_ | refine zab ?_ | refine zad ?_)); refine zaa hX zcH rfl ?_ ?_
  · repeat' (first | exact trivial | assumption | exact b0 | exact b1 | (refine ⟨?_, ?_⟩) | (intro _) | decide)
  refine zan (σ' := ⟨[(17, ⟨.bool, true⟩)], [], 1⟩) ⟨⟨zcS ?_, trivial⟩, trivial, rfl, rfl⟩ ?_
  · show (bif (bif (bif (bif (bif ziL sanR sanR then eqb .str ziB ziB else false) then eqb .str zeC zeC else false) then eqb .str zmg zmg else false) then ((0 : Int) == 0) else false) then eqb .str zoq zoq else false) = true
    rw [hs, zd6, zd6, zd6, zd6]
    rfl
  have w1 : zcb zqg 5 1 = true := by unfold zcb; rw [san1]; rfl
  have w2 : zcb zqf 12 1 = true := by unfold zcb; rw [san2]; rfl
  have w3 : zcb zqe 5 3 = true := by unfold zcb; rw [san3]; rfl
  have w4 : zcb zqd 10 3 = true := by unfold zcb; rw [san4]; rfl
  have w5 : zcb zqc 6 3 = true := by unfold zcb; rw [san5]; rfl
  have w6 : zcb zqb 0 3 = true := by unfold zcb; rw [san6]; rfl
  (repeat (first | refine zae ?_ | refine zac ?_ | refine zab ?_ | refine zad ?_)); refine zaa hX zcH rfl ?_ ?_
  · repeat' (first | exact trivial | assumption | (refine ⟨?_, ?_⟩) | (intro _))
  refine AWP.ret ⟨.inr rfl, zay rfl trivial rfl rfl ?_⟩
  show (bif (bif (bif (bif (bif (bif true then zcb zqg 5 1 else false) then zcb zqf 12 1 else false) then zcb zqe 5 3 else false) then zcb zqd 10 3 else false) then zcb zqc 6 3 else false) then zcb zqb 0 3 else false) = true
  rw [w1, w2, w3, w4, w5, w6]
  rfl
set_option maxRecDepth 10000
theorem zgc (b : List UInt8) : ∀ (a c : List UInt8), segF c (a ++ 10 :: b) = segF c a ++ segF [] b
  | [], c => by
    show (if (10 : UInt8) = 10 then c :: segF [] b else segF (c ++ [10]) b) = [c] ++ segF [] b
    rw [if_pos rfl]; rfl
  | x :: r, c => by
    show (if x = 10 then c :: segF [] (r ++ 10 :: b) else segF (c ++ [x]) (r ++ 10 :: b)) = (if x = 10 then c :: segF [] r else segF (c ++ [x]) r) ++ segF [] b
    split
    · rw [zgc b r []]; rfl
    · exact zgc b r _
theorem zmA (a b : List UInt8) : segs (a ++ 10 :: b) = segs a ++ segs b := zgc b a []
noncomputable def libX : List (List UInt8) -> Nat -> List De -> Except (Int × Int) (List De)
  | [], _, acc => .ok acc
  | y :: r, fr, acc => zb6 y fr acc >>= fun acc' => libX r (fr + y.length + 1) acc'
theorem zpO : ∀ (l : List (List UInt8)) (fr : Nat) (acc : List De), libK l fr acc = match libX l fr acc with
    | .error e => ([], e.1, e.2)
    | .ok a => (a, 0, 0)
  | [], _, _ => rfl
  | y :: r, fr, acc => by
    unfold libK libX
    cases zb6 y fr acc with
    | error e => rfl
    | ok a => exact zpO r _ a
theorem zkO (l2 : List (List UInt8)) : ∀ (l1 : List (List UInt8)) (fr : Nat) (acc : List De), libX (l1 ++ l2) fr acc = (libX l1 fr acc >>= fun a => libX l2 (fr + zcq l1) a)
  | [], fr, acc => rfl
  | y :: r, fr, acc => by
    show (zb6 y fr acc >>= fun a => libX (r ++ l2) (fr + y.length + 1) a) = ((zb6 y fr acc >>= fun a => libX r (fr + y.length + 1) a) >>= fun a => libX l2 (fr + zcq (y :: r)) a)
    cases zb6 y fr acc with
    | error e => rfl
    | ok a =>
      show libX (r ++ l2) (fr + y.length + 1) a = (libX r (fr + y.length + 1) a >>= fun a => libX l2 (fr + zcq (y :: r)) a)
      rw [zkO l2 r]
      have : fr + y.length + 1 + zcq r = fr + zcq (y :: r) := by show _ = fr + (y.length + 1 + zcq r); omega
      rw [this]
theorem zlX {y : List UInt8} {k : Int} {d : De} (h : zdC y k = .ok d) : 3 ≤ y.length := by
  unfold zdC at h
  cases hd : gDef y (zaW y, 0) k with
  | error e => rw [hd] at h; cases h
  | ok r =>
    have hg := ziJ y
    obtain ⟨u, h1, h2⟩ := zam hd
    obtain ⟨u2, h3, h4⟩ := zam h2
    obtain ⟨a, h5, h6⟩ := zam h4
    obtain ⟨p, h7, h8⟩ := zam h6
    have hc := zbl h1
    rw [beq_iff_eq] at hc
    have k1 : Onw y (zaW y, 0) (gAdv y (zaW y, 0)) := zbV hg (by show Tok.cls (zaW y, (0 : Int)).1 ≠ 0; rw [hc]; decide)
    have k2 := za9 k1.1 h5
    unfold zet at h7
    obtain ⟨q, h9, h10⟩ := zam h7
    have k3 : Onw y a q.2 := zcT k2.1 h9
    have a0 := hg.1.1.1
    have a1 := k1.2
    have a2 := k2.2
    have a3 := k3.2
    have a4 := k3.1.1.1
    omega
theorem zhy {y : List UInt8} {k : Nat} (h : k < 4096) : zdC y (k : Int) = zdC y 0 := by
  have : gDef y (zaW y, 0) (k : Int) = gDef y (zaW y, 0) 0 := by
    unfold gDef
    rw [decide_eq_true (by omega : (k : Int) < 4096), decide_eq_true (by decide : (0 : Int) < 4096)]
  unfold zdC
  rw [this]
theorem zmq {y : List UInt8} {fr d : Nat} {p acc : List De} (h : p.length + acc.length < 4096) : zb6 y (d + fr) (p ++ acc) = match zb6 y fr acc with
    | .ok a => .ok (p ++ a)
    | .error e => .error ((d : Int) + e.1, e.2) := by
  unfold zb6
  split
  · split
    · show Except.error _ = Except.error _
      rw [show ((d + fr : Nat) : Int) = (d : Int) + (fr : Int) by omega]
    · rw [List.length_append, zhy h, zhy (by omega : acc.length < 4096)]
      cases zdC y 0 with
      | ok x =>
        show Except.ok _ = Except.ok _
        rw [List.append_assoc]
      | error e =>
        show (if e.2 = 0 then _ else _) = match (if e.2 = 0 then _ else _ : Except (Int × Int) (List De)) with | .ok a => _ | .error e => _
        split
        · rfl
        · show Except.error _ = Except.error _
          rw [show ((d + fr : Nat) : Int) + e.1 = (d : Int) + ((fr : Int) + e.1) by omega]
  · rfl
theorem zhh {y : List UInt8} {fr : Nat} {acc a : List De} (h : zb6 y fr acc = .ok a) : 4 * a.length ≤ 4 * acc.length + (y.length + 1) := by
  unfold zb6 at h
  split at h
  · split at h
    · cases h
    · split at h
      · rename_i d hd
        cases h
        have := zlX hd
        rw [List.length_append, List.length_singleton]
        omega
      · split at h
        · cases h; omega
        · cases h
  · cases h; omega
theorem zhz (d : Nat) (p : List De) : ∀ (l : List (List UInt8)) (fr : Nat) (acc : List De), 4 * (p.length + acc.length) + zcq l < 4 * 4096 -> libX l (d + fr) (p ++ acc) = match libX l fr acc with
    | .ok a => .ok (p ++ a)
    | .error e => .error ((d : Int) + e.1, e.2)
  | [], _, _, _ => rfl
  | y :: r, fr, acc, h => by
    unfold zcq at h
    show (zb6 y (d + fr) (p ++ acc) >>= fun a => libX r (d + fr + y.length + 1) a) = match (zb6 y fr acc >>= fun a => libX r (fr + y.length + 1) a) with | .ok a => _ | .error e => _
    rw [zmq (by omega)]
    cases hs : zb6 y fr acc with
    | error e => rfl
    | ok a =>
      have := zhh hs
      have ih := zhz d p r (fr + y.length + 1) a (by omega)
      rw [show d + (fr + y.length + 1) = d + fr + y.length + 1 by omega] at ih
      exact ih
theorem zeR : ∀ (l : List (List UInt8)) (fr : Nat) (acc a : List De), libX l fr acc = .ok a -> 4 * a.length ≤ 4 * acc.length + zcq l
  | [], _, _, _, h => by cases h; exact Nat.le_refl _
  | y :: r, fr, acc, a, h => by
    obtain ⟨b, h1, h2⟩ := zam h
    have := zhh h1
    have := zeR r _ _ _ h2
    show 4 * a.length ≤ 4 * acc.length + (y.length + 1 + zcq r)
    omega
theorem zlr {y : List UInt8} {fr : Nat} {acc : List De} {e : Int × Int} (h : zb6 y fr acc = .error e) : e.2 ≠ 0 := by
  unfold zb6 at h
  split at h
  · split at h
    · cases h; show (2 : Int) ≠ 0; decide
    · split at h
      · cases h
      · split at h
        · cases h
        · rename_i hc
          cases h
          exact hc
  · cases h
theorem zgv : ∀ (l : List (List UInt8)) (fr : Nat) (acc : List De) (e : Int × Int), libX l fr acc = .error e -> e.2 ≠ 0
  | [], _, _, _, h => by cases h
  | y :: r, fr, acc, e, h => by
    unfold libX at h
    cases hs : zb6 y fr acc with
    | error e2 =>
      rw [hs] at h
      have h : (Except.error e2 : Except (Int × Int) (List De)) = .error e := h
      cases h
      exact zlr hs
    | ok a =>
      rw [hs] at h
      exact zgv r _ _ _ h
theorem zd1 {s : List UInt8} (hs : s.length ≤ 1048576) : zaC s = match libX (segs s) 0 [] with
    | .error e => ([], e.1, e.2)
    | .ok a => (a, 0, 0) := by
  unfold zaC
  rw [if_neg (by omega)]
  exact zpO _ _ _
theorem zgu {a b : List UInt8} (ha : a.length ≤ 6000) (hb : b.length ≤ 6000) : libX (segs (a ++ 10 :: b)) 0 [] = (libX (segs a) 0 [] >>= fun x => match libX (segs b) 0 [] with
    | .ok y => .ok (x ++ y)
    | .error e => .error (((a.length + 1 : Nat) : Int) + e.1, e.2)) := by
  rw [zmA, zkO]
  have ta := zdd a
  have tb := zdd b
  cases hx : libX (segs a) 0 [] with
  | error e => rfl
  | ok x =>
    have hg := zeR _ _ _ _ hx
    rw [List.length_nil] at hg
    have := zhz (a.length + 1) x (segs b) 0 [] (by rw [List.length_nil]; omega)
    rw [List.append_nil] at this
    show libX (segs b) (0 + zcq (segs a)) x = _
    rw [show 0 + zcq (segs a) = a.length + 1 + 0 by omega]
    exact this
theorem zgQ {y : List UInt8} (h : zo0 y = false) {fr : Nat} {acc : List De} : zb6 y fr acc = .ok acc := by
  unfold zb6
  rw [zkM, if_neg (by rw [h]; decide)]
theorem zjZ {b : List UInt8} (hb : b.length ≤ 5900) : (match libX (segs ([35, 32, 120, 10, 32, 9, 10] ++ b ++ [10, 35])) 0 [] with
    | .ok y => y
    | .error _ => []) = (match libX (segs b) 0 [] with
    | .ok y => y
    | .error _ => []) ∧ ((libX (segs b) 0 []).toBool = true -> (libX (segs ([35, 32, 120, 10, 32, 9, 10] ++ b ++ [10, 35])) 0 []).toBool = true) := by
  have e1 : ([35, 32, 120, 10, 32, 9, 10] ++ b ++ [10, 35] : List UInt8) = ([35, 32, 120, 10, 32, 9] ++ 10 :: b) ++ 10 :: [35] := by simp
  rw [e1, zgu (a := [35, 32, 120, 10, 32, 9] ++ 10 :: b) (b := [35]) (by simp; omega) (by decide), zgu (a := [35, 32, 120, 10, 32, 9]) (b := b) (by decide) (by omega)]
  have s1 : segs [35, 32, 120, 10, 32, 9] = [[35, 32, 120], [32, 9]] := by kernel_rfl
  have s2 : segs [35] = [[35]] := by kernel_rfl
  have l1 : libX (segs [35, 32, 120, 10, 32, 9]) 0 [] = .ok [] := by
    rw [s1]
    unfold libX
    rw [zgQ (by decide +kernel)]
    show libX [[32, 9]] _ [] = _
    unfold libX
    rw [zgQ (by decide +kernel)]
    rfl
  have l2 : libX (segs [35]) 0 [] = .ok [] := by
    rw [s2]
    unfold libX
    rw [zgQ (by decide +kernel)]
    rfl
  rw [l1, l2]
  cases libX (segs b) 0 [] with
  | error e => exact ⟨rfl, fun h => by cases h⟩
  | ok y =>
    refine ⟨?_, fun _ => rfl⟩
    show ([] ++ y) ++ [] = y
    rw [List.nil_append, List.append_nil]
set_option maxRecDepth 100000
theorem zov {y : List UInt8} {fr : Nat} {acc : List De} {e : Int × Int} (h : zb6 y fr acc = .error e) : 0 ≤ e.1 ∧ e.1 ≤ (fr : Int) + (y.length : Int) := by
  unfold zb6 at h
  split at h
  · split at h
    · cases h; show (0 : Int) ≤ (fr : Int) ∧ (fr : Int) ≤ (fr : Int) + (y.length : Int); omega
    · split at h
      · cases h
      · rename_i er hd
        split at h
        · cases h
        · cases h
          have := zh2 hd
          show 0 ≤ (fr : Int) + er.1 ∧ (fr : Int) + er.1 ≤ (fr : Int) + (y.length : Int)
          omega
  · cases h
theorem znh : ∀ (l : List (List UInt8)) (fr : Nat) (acc : List De) (e : Int × Int), libX l fr acc = .error e -> 0 ≤ e.1 ∧ e.1 ≤ (fr : Int) + (zcq l : Int)
  | [], _, _, _, h => by cases h
  | y :: r, fr, acc, e, h => by
    unfold libX at h
    have ht : zcq (y :: r) = y.length + 1 + zcq r := rfl
    cases hs : zb6 y fr acc with
    | error e2 =>
      rw [hs] at h
      have h : (Except.error e2 : Except (Int × Int) (List De)) = .error e := h
      cases h
      have := zov hs
      omega
    | ok a =>
      rw [hs] at h
      have := znh r _ _ _ h
      omega
noncomputable def kLaB : Kn := { gmK with C := [(19, zkl), (15, zn2), (21, zpY)] }
theorem zbx : KnOk Tryz.prog gmH kLaB := zaj.with (.cons zgo <| .cons zmE <| .cons zoE .nil)
set_option maxHeartbeats 1000000 in
theorem law7_ok : CtrOk Tryz.prog gmH 9 (lawCtr [.str, .str]) := by
  refine zaq (K := kLaB) zbx Tryz.func9 rfl rfl Tryz.call9 rfl (by decide) (by intro h; cases h) ?_
  rintro w0 X hX ⟨(a : List UInt8), (b : List UInt8), _⟩ hp
  change AWP _ _ _ _ _ ⟨[(0, ⟨.str, a⟩), (1, ⟨.str, b⟩)], [], 0⟩ _
  (repeat (first | refine zae ?_ | refine zac ?_ | refine zab ?_ | refine zad ?_)); refine zaa hX zbx rfl ?_ ?_
  · trivial
  (repeat (first | refine zae ?_ | refine zac ?_ | refine zab ?_ | refine zad ?_)); refine zaa hX zbx rfl ?_ ?_
  · trivial
  (repeat (first | refine zae ?_ | refine zac ?_ | refine zab ?_ | refine zad ?_)); refine zaa hX zbx rfl ?_ ?_
  · repeat' (first | exact trivial | assumption | (refine ⟨?_, ?_⟩) | (intro _) | exact Nat.le_of_ble_eq_true rfl | exact Int.natCast_nonneg _ | (simp_all [allP]; done))
  have hq : (bif decide (((a.length : Nat) : Int) > 5000) then true else decide (((b.length : Nat) : Int) > 5000)) = decide (5000 < a.length ∨ 5000 < b.length) := by
    rw [b_or, Bool.eq_iff_iff, Bool.or_eq_true, decide_eq_true_iff, decide_eq_true_iff, decide_eq_true_iff]
    omega
  refine zai rfl (fun hb => ?_) (fun hb => ?_)
  · (repeat (first | refine zae ?_ | refine zac ?_ | refine zak ?_ | refine zad ?_ | refine zab ?_ | refine zaa hX zbx rfl trivial ?_ | refine zaa hX zbx rfl id ?_ | refine zaa hX zbx rfl ⟨id, id⟩ ?_))
    exact AWP.ret ⟨.inr rfl, zay rfl trivial rfl rfl rfl⟩
  have hb := of_decide_eq_false (hq.symm.trans hb)
  have hla : a.length ≤ 5000 := by omega
  have hlb : b.length ≤ 5000 := by omega
  refine zac ?_
  (repeat (first | refine zae ?_ | refine zac ?_ | refine zab ?_ | refine zad ?_)); refine zaa hX zbx rfl ?_ ?_
  · trivial
  (repeat (first | refine zae ?_ | refine zac ?_ | refine zab ?_ | refine zad ?_)); refine zaa hX zbx rfl ?_ ?_
  · trivial
  have l1 : a.length + 1 ≤ maxLen := by unfold maxLen; omega
  have l2 : List.length (a ++ [10] : List UInt8) + b.length ≤ maxLen := by rw [List.length_append]; show a.length + 1 + _ ≤ _; unfold maxLen; omega
  (repeat (first | refine zae ?_ | refine zac ?_ | refine zab ?_ | refine zad ?_)); refine zaa hX zbx rfl ?_ ?_
  · exact ⟨l1, l2⟩
  have hcat : (a ++ [10] ++ b : List UInt8) = a ++ (10 :: b) := by rw [List.append_assoc]; rfl
  have hpa := zd1 (s := a) (by omega)
  have hpb := zd1 (s := b) (by omega)
  have hpz := zd1 (s := a ++ 10 :: b) (by rw [List.length_append, List.length_cons]; omega)
  rw [zgu (by omega) (by omega)] at hpz
  cases hA : libX (segs a) 0 [] with
  | error er =>
    obtain ⟨at', e⟩ := er
    have hc : e ≠ 0 := zgv _ _ _ _ hA
    rw [hA] at hpa hpz
    have hpa : zaC a = ([], at', e) := hpa
    have hpz : zaC (a ++ [10] ++ b) = ([], at', e) := by rw [hcat]; exact hpz
    refine zan (σ' := ⟨[(5, ⟨.bool, true⟩), (7, ⟨i64, at'⟩), (8, ⟨i64, e⟩), (12, ⟨.slice de, []⟩), (13, ⟨i64, at'⟩), (14, ⟨i64, e⟩)], [], 0⟩) ⟨⟨rfl, vI64 (congrArg (fun x => x.2.1) hpa), vI64 (congrArg (fun x => x.2.2) hpa), vDes (congrArg (fun x => x.1) hpz), vI64 (congrArg (fun x => x.2.1) hpz), vI64 (congrArg (fun x => x.2.2) hpz), trivial⟩, trivial, rfl, rfl⟩ ?_
    (repeat (first | refine zae ?_ | refine zac ?_ | refine zab ?_ | refine zad ?_)); refine zaa hX zbx rfl ?_ ?_
    · trivial
    refine zai rfl (fun hb => ?_) (fun hb => ?_)
    · (repeat (first | refine zae ?_ | refine zac ?_ | refine zab ?_ | refine zad ?_)); refine zaa hX zbx rfl ?_ ?_
      · repeat' (first | exact trivial | assumption | (refine ⟨?_, ?_⟩) | (intro _) | exact Nat.le_of_ble_eq_true rfl | exact Int.natCast_nonneg _ | (simp_all [allP]; done))
      refine AWP.ret ⟨.inr rfl, zay rfl trivial rfl rfl ?_⟩
      show (bif (bif (bif ((0 : Int) == 0) then at' == at' else false) then e == e else false) then true else false) = true
      simp
    · have hb : (e != 0) = false := hb
      rw [bne_iff_ne.2 hc] at hb
      cases hb
  | ok x =>
    rw [hA] at hpa hpz
    have hpa : zaC a = (x, 0, 0) := hpa
    cases hB : libX (segs b) 0 [] with
    | error er =>
      obtain ⟨at', e⟩ := er
      have hc : e ≠ 0 := zgv _ _ _ _ hB
      have hat := znh _ _ _ _ hB
      rw [zdd] at hat
      have hat0 : 0 ≤ at' := hat.1
      have hat1 : at' ≤ ((0 : Nat) : Int) + ((b.length + 1 : Nat) : Int) := hat.2
      rw [hB] at hpb hpz
      have hpb : zaC b = ([], at', e) := hpb
      have hpz : zaC (a ++ [10] ++ b) = ([], ((a.length + 1 : Nat) : Int) + at', e) := by rw [hcat]; exact hpz
      refine zan (σ' := ⟨[(0, ⟨.str, a⟩), (5, ⟨.bool, true⟩), (8, ⟨i64, (0 : Int)⟩), (10, ⟨i64, at'⟩), (11, ⟨i64, e⟩), (12, ⟨.slice de, []⟩), (13, ⟨i64, ((a.length + 1 : Nat) : Int) + at'⟩), (14, ⟨i64, e⟩)], [], 0⟩) ⟨⟨rfl, rfl, vI64 (congrArg (fun x => x.2.2) hpa), vI64 (congrArg (fun x => x.2.1) hpb), vI64 (congrArg (fun x => x.2.2) hpb), vDes (congrArg (fun x => x.1) hpz), vI64 (congrArg (fun x => x.2.1) hpz), vI64 (congrArg (fun x => x.2.2) hpz), trivial⟩, trivial, rfl, rfl⟩ ?_
      (repeat (first | refine zae ?_ | refine zac ?_ | refine zab ?_ | refine zad ?_)); refine zaa hX zbx rfl ?_ ?_
      · trivial
      refine zai rfl (fun hb => ?_) (fun _ => ?_)
      · have hb : ((0 : Int) != 0) = true := hb
        cases hb
      refine zac ?_
      (repeat (first | refine zae ?_ | refine zac ?_ | refine zab ?_ | refine zad ?_)); refine zaa hX zbx rfl ?_ ?_
      · trivial
      refine zai rfl (fun hb => ?_) (fun hb => ?_)
      · have i1 : inR .i64 (((a.length : Nat) : Int) + 1) := zat (by omega) (by omega)
        have i2 : inR .i64 (((a.length : Nat) : Int) + 1 + at') := zat (by omega) (by omega)
        (repeat (first | refine zae ?_ | refine zac ?_ | refine zab ?_ | refine zad ?_)); refine zaa hX zbx rfl ?_ ?_
        · repeat' (first | exact trivial | assumption | exact i1 | exact i2 | (refine ⟨?_, ?_⟩) | (intro _) | exact Nat.le_of_ble_eq_true rfl | exact Int.natCast_nonneg _ | (simp_all [allP]; done))
        refine AWP.ret ⟨.inr rfl, zay rfl trivial rfl rfl ?_⟩
        show (bif (bif (bif ((0 : Int) == 0) then ((a.length + 1 : Nat) : Int) + at' == ((a.length : Nat) : Int) + 1 + at' else false) then e == e else false) then true else false) = true
        rw [show ((a.length + 1 : Nat) : Int) + at' = ((a.length : Nat) : Int) + 1 + at' by omega]
        simp
      · have hb : (e != 0) = false := hb
        rw [bne_iff_ne.2 hc] at hb
        cases hb
    | ok y =>
      rw [hB] at hpb hpz
      have hpb : zaC b = (y, 0, 0) := hpb
      have hpz : zaC (a ++ [10] ++ b) = (x ++ y, 0, 0) := by rw [hcat]; exact hpz
      refine zan (σ' := ⟨[(1, ⟨.str, b⟩), (5, ⟨.bool, true⟩), (6, ⟨.slice de, x⟩), (8, ⟨i64, (0 : Int)⟩), (9, ⟨.slice de, y⟩), (11, ⟨i64, (0 : Int)⟩), (12, ⟨.slice de, x ++ y⟩), (14, ⟨i64, (0 : Int)⟩)], [], 0⟩) ⟨⟨rfl, rfl, vDes (congrArg (fun x => x.1) hpa), vI64 (congrArg (fun x => x.2.2) hpa), vDes (congrArg (fun x => x.1) hpb), vI64 (congrArg (fun x => x.2.2) hpb), vDes (congrArg (fun x => x.1) hpz), vI64 (congrArg (fun x => x.2.2) hpz), trivial⟩, trivial, rfl, rfl⟩ ?_
      (repeat (first | refine zae ?_ | refine zac ?_ | refine zab ?_ | refine zad ?_)); refine zaa hX zbx rfl ?_ ?_
      · trivial
      refine zai rfl (fun hb => ?_) (fun _ => ?_)
      · have hb : ((0 : Int) != 0) = true := hb
        cases hb
      refine zac ?_
      (repeat (first | refine zae ?_ | refine zac ?_ | refine zab ?_ | refine zad ?_)); refine zaa hX zbx rfl ?_ ?_
      · trivial
      refine zai rfl (fun hb => ?_) (fun _ => ?_)
      · have hb : ((0 : Int) != 0) = true := hb
        cases hb
      refine zac ?_
      have l3 : 7 + b.length ≤ maxLen := by unfold maxLen; omega
      have l4 : List.length ([35, 32, 120, 10, 32, 9, 10] ++ b : List UInt8) + 2 ≤ maxLen := by rw [List.length_append]; show 7 + b.length + 2 ≤ _; unfold maxLen; omega
      (repeat (first | refine zae ?_ | refine zac ?_ | refine zab ?_ | refine zad ?_)); refine zaa hX zbx rfl ?_ ?_
      · exact ⟨l3, l4⟩
      obtain ⟨q1, q2⟩ := zjZ (b := b) (by omega)
      have hpv := zd1 (s := [35, 32, 120, 10, 32, 9, 10] ++ b ++ [10, 35]) (by rw [List.length_append, List.length_append]; show 7 + b.length + 2 ≤ _; omega)
      rw [hB] at q1 q2
      have q2 := q2 rfl
      have hpv : zaC ([35, 32, 120, 10, 32, 9, 10] ++ b ++ [10, 35]) = (y, 0, 0) := by
        rw [hpv]
        revert q1 q2
        cases libX (segs ([35, 32, 120, 10, 32, 9, 10] ++ b ++ [10, 35])) 0 [] with
        | error e => intro q1 q2; cases q2
        | ok v =>
          intro q1 _
          have q1 : v = y := q1
          rw [q1]
      refine zan (σ' := ⟨[(5, ⟨.bool, true⟩), (6, ⟨.slice de, x⟩), (9, ⟨.slice de, y⟩), (12, ⟨.slice de, x ++ y⟩), (14, ⟨i64, (0 : Int)⟩), (15, ⟨.slice de, y⟩), (17, ⟨i64, (0 : Int)⟩)], [], 0⟩) ⟨⟨rfl, rfl, rfl, rfl, rfl, vDes (congrArg (fun x => x.1) hpv), vI64 (congrArg (fun x => x.2.2) hpv), trivial⟩, trivial, rfl, rfl⟩ ?_
      have hgx : 4 * x.length ≤ 0 + zcq (segs a) := zeR _ _ _ _ hA
      have hgy : 4 * y.length ≤ 0 + zcq (segs b) := zeR _ _ _ _ hB
      rw [zdd] at hgx hgy
      have hlxy : (x ++ y).length = x.length + y.length := List.length_append
      have i3 : inR .i64 (((x.length : Nat) : Int) + ((y.length : Nat) : Int)) := zat (by omega) (by omega)
      (repeat (first | refine zae ?_ | refine zac ?_ | refine zab ?_ | refine zad ?_)); refine zaa hX zbx rfl ?_ ?_
      · repeat' (first | exact trivial | assumption | exact i3 | (refine ⟨?_, ?_⟩) | (intro _) | exact Nat.le_of_ble_eq_true rfl | exact Int.natCast_nonneg _ | (simp_all [allP]; done))
      refine zai rfl (fun hb => ?_) (fun _ => ?_)
      · have hb : (bif (bif (bif (((x ++ y).length : Nat) : Int) != ((x.length : Nat) : Int) + ((y.length : Nat) : Int) then true else (0 : Int) != 0) then true else (0 : Int) != 0) then true else !zhj y y) = true := hb
        rw [hlxy, zdf.2 rfl, show (((x.length + y.length : Nat) : Int) != ((x.length : Nat) : Int) + ((y.length : Nat) : Int)) = false from bne_eq_false_iff_eq.2 (by omega)] at hb
        cases hb
      refine zac ?_
      have s0 : (0 : Int) ≤ ((x.length : Nat) : Int) := by omega
      have s1 : ((x.length : Nat) : Int) ≤ (((x ++ y).length : Nat) : Int) := by omega
      have s2 : (((x ++ y).length : Nat) : Int) ≤ (((x ++ y).length : Nat) : Int) := Int.le_refl _
      (repeat (first | refine zae ?_ | refine zac ?_ | refine zab ?_ | refine zad ?_)); refine zaa hX zbx rfl ?_ ?_
      · repeat' (first | exact trivial | assumption | exact s0 | exact s1 | exact s2 | (refine ⟨?_, ?_⟩) | (intro _) | exact Nat.le_of_ble_eq_true rfl | exact Int.natCast_nonneg _ | (simp_all [allP]; done))
      refine AWP.ret ⟨.inr rfl, zay rfl trivial rfl rfl ?_⟩
      show (bif (bif zhj ((x ++ y).take (((x.length : Nat) : Int)).toNat) x then zhj ((x ++ y).drop (((x.length : Nat) : Int)).toNat) y else false) then true else false) = true
      rw [Int.toNat_natCast, List.take_left, List.drop_left, zdf.2 rfl, zdf.2 rfl]
      rfl
end Go.Proofs.YtpeaigpfddalcaaGreatDoor
