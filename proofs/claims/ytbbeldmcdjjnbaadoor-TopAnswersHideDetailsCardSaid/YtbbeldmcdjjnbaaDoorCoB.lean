/-
  Package coarse, second part: possible, Coarser's function, join; the reference's SameInts.
-/
import Derived.Test.YtbbeldmcdjjnbaaDoorCoA
namespace Go.Proofs.YtbbeldmcdjjnbaaDoor
open Go Go.RowKit
set_option linter.unusedSimpArgs false
set_option linter.unusedVariables false
set_option maxRecDepth 100000
abbrev cap1 : Ty := .tup (.vptr i64) .unit
def offV (most x : Int) : Bool := decide (x < 0) || decide (x > most)
def cOff : Ctr := { args := [i64, .vptr i64], pre := fun _ => [], res := .bool, own := none, out := fun x => offV x.2.1 x.1 }
theorem off_ok : CtrOk Tryd.prog pG 26 cOff := by
  refine ctr_of_awp (K := coK) coK_ok Tryd.func26 rfl rfl Tryd.call26 rfl (by decide) (by intro h; cases h) ?_
  rintro w0 X hX ⟨(x : Int), (m : Int), _⟩ hp
  change AWP _ _ _ _ _ ⟨[(0, ⟨i64, x⟩), (1, ⟨.vptr i64, m⟩)], [], 0⟩ _
  (repeat (first | refine AWP.seq ?_ | refine AWP.skip ?_ | refine AWP.block ?_ | refine AWP.exit ?_)); refine AWP.region hX coK_ok rfl ?_ ?_
  · trivial
  (repeat (first | refine AWP.seq ?_ | refine AWP.skip ?_ | refine AWP.block ?_ | refine AWP.exit ?_)); refine AWP.region hX coK_ok rfl ?_ ?_
  · repeat' (first | exact trivial | assumption | (refine ⟨?_, ?_⟩) | (intro _))
  refine AWP.ret ⟨.inr rfl, done1 rfl trivial rfl rfl ?_⟩
  show (bif decide (x < 0) then true else decide (x > m)) = _
  rw [b_or]
  rfl
def cIdxN : Ctr := { args := [ints, .clo 26 cap1], pre := fun _ => [], res := i64, own := none, out := fun x => idx (offV x.2.1.1) x.1 }
def kCoF : Kn := { coK with C := [(26, cOff)] }
theorem kCoF_ok : KnOk Tryd.prog pG kCoF := coK_ok.with (.cons off_ok .nil)
theorem idxN_ok : CtrOk Tryd.prog pG 39 cIdxN := by
  refine ctr_of_awp (K := kCoF) kCoF_ok Tryd.func39 rfl rfl Tryd.call39 rfl (by decide) (by intro h; cases h) ?_
  rintro w0 X hX ⟨(l : List Int), ⟨(m : Int), _⟩, _⟩ hp
  change AWP _ _ _ _ _ ⟨[(0, ⟨ints, l⟩), (1, ⟨.clo 26 cap1, (m, ())⟩)], [], 0⟩ _
  refine AWP.len 0 rfl fun hl => ?_
  unfold maxLen at hl
  (repeat (first | refine AWP.seq ?_ | refine AWP.skip ?_ | refine AWP.label ?_ | refine AWP.exit ?_ | refine AWP.block ?_ | refine AWP.region hX kCoF_ok rfl trivial ?_ | refine AWP.region hX kCoF_ok rfl id ?_ | refine AWP.region hX kCoF_ok rfl ⟨id, id⟩ ?_))
  refine AWP.loop (ι := Nat) (fun k => ⟨[(0, ⟨ints, l⟩), (1, ⟨.clo 26 cap1, (m, ())⟩), (7, ⟨i64, ((l.length : Nat) : Int)⟩), (8, ⟨i64, (k : Int)⟩)], [], 0⟩) (fun k => k ≤ l.length ∧ ∀ j (hj : j < l.length), j < k → offV m l[j] = false) (fun k => l.length - k) 0 ⟨by omega, by omega⟩ ⟨⟨rfl, rfl, rfl, rfl, trivial⟩, trivial, rfl, rfl⟩ ?_
  rintro k ⟨hk, hn⟩
  (repeat (first | refine AWP.seq ?_ | refine AWP.skip ?_ | refine AWP.block ?_ | refine AWP.exit ?_)); refine AWP.region hX kCoF_ok rfl ?_ ?_
  · trivial
  refine AWP.seq ?_
  refine AWP.cond rfl (fun hb => ?_) (fun hb => ?_)
  · have hb : decide ((k : Int) < (l.length : Nat)) = true := hb
    have hb := of_decide_eq_true hb
    have hlt : k < l.length := by omega
    have n0 : (0 : Int) ≤ (k : Int) := by omega
    (repeat (first | refine AWP.seq ?_ | refine AWP.skip ?_ | refine AWP.block ?_ | refine AWP.exit ?_)); refine AWP.region hX kCoF_ok rfl ?_ ?_
    · trivial
    (repeat (first | refine AWP.seq ?_ | refine AWP.skip ?_ | refine AWP.block ?_ | refine AWP.exit ?_)); refine AWP.region hX kCoF_ok rfl ?_ ?_
    · exact ⟨n0, hb⟩
    refine AWP.cond rfl (fun hb => ?_) (fun hb => ?_)
    · have hc : offV m (l.getD (k : Int).toNat 0) = true := hb
      rw [getD_at' hlt] at hc
      (repeat (first | refine AWP.seq ?_ | refine AWP.skip ?_ | refine AWP.label ?_ | refine AWP.exit ?_ | refine AWP.block ?_ | refine AWP.region hX kCoF_ok rfl trivial ?_ | refine AWP.region hX kCoF_ok rfl id ?_ | refine AWP.region hX kCoF_ok rfl ⟨id, id⟩ ?_))
      refine AWP.ret ⟨.inr rfl, done1 rfl trivial rfl rfl ?_⟩
      show (k : Int) = idx _ l
      exact (idx_some hlt hc fun j hj => hn j _ hj).symm
    · have hc : offV m (l.getD (k : Int).toNat 0) = false := hb
      rw [getD_at' hlt] at hc
      (repeat (first | refine AWP.seq ?_ | refine AWP.skip ?_ | refine AWP.block ?_ | refine AWP.exit ?_)); refine AWP.region hX kCoF_ok rfl ?_ ?_
      · exact inR_succ (by omega)
      exact ⟨k + 1, ⟨by omega, fun j hj hlt => by
        by_cases e : j = k
        · subst e; exact hc
        · exact hn j hj (by omega)⟩, by omega, ⟨rfl, rfl, rfl, vSucc _, trivial⟩, trivial, rfl, rfl⟩
  · have hb : decide ((k : Int) < (l.length : Nat)) = false := hb
    have hb := of_decide_eq_false hb
    have : k = l.length := by omega
    subst this
    (repeat (first | refine AWP.seq ?_ | refine AWP.skip ?_ | refine AWP.label ?_ | refine AWP.exit ?_ | refine AWP.block ?_ | refine AWP.region hX kCoF_ok rfl trivial ?_ | refine AWP.region hX kCoF_ok rfl id ?_ | refine AWP.region hX kCoF_ok rfl ⟨id, id⟩ ?_))
    refine AWP.ret ⟨.inr rfl, done1 rfl trivial rfl rfl ?_⟩
    show (-1 : Int) = idx _ l
    exact (idx_none fun j hj => hn j hj hj).symm
def cAnyN : Ctr := { args := [ints, .clo 26 cap1], pre := fun _ => [], res := .bool, own := none, out := fun x => List.any x.1 (offV x.2.1.1) }
def kCoG : Kn := { coK with C := [(39, cIdxN)] }
theorem kCoG_ok : KnOk Tryd.prog pG kCoG := coK_ok.with (.cons idxN_ok .nil)
theorem anyN_ok : CtrOk Tryd.prog pG 25 cAnyN := by
  refine ctr_of_awp (K := kCoG) kCoG_ok Tryd.func25 rfl rfl Tryd.call25 rfl (by decide) (by intro h; cases h) ?_
  rintro w0 X hX ⟨(l : List Int), ⟨(m : Int), _⟩, _⟩ hp
  change AWP _ _ _ _ _ ⟨[(0, ⟨ints, l⟩), (1, ⟨.clo 26 cap1, (m, ())⟩)], [], 0⟩ _
  (repeat (first | refine AWP.seq ?_ | refine AWP.skip ?_ | refine AWP.label ?_ | refine AWP.exit ?_ | refine AWP.block ?_ | refine AWP.region hX kCoG_ok rfl trivial ?_ | refine AWP.region hX kCoG_ok rfl id ?_ | refine AWP.region hX kCoG_ok rfl ⟨id, id⟩ ?_))
  refine AWP.ret ⟨.inr rfl, done1 rfl trivial rfl rfl ?_⟩
  exact idx_any _ l
def mostS (g : Int) : Int := if g ≥ 3 then 255 else 1
def possS (v : List Int) (g n : Int) : Bool := (((v.length : Nat) : Int) == n) && !v.any (offV (mostS g))
def cPoss : Ctr := { args := [ints, i64, i64], pre := fun _ => [], res := .bool, own := none, out := fun x => possS x.1 x.2.1 x.2.2.1 }
def kCoH : Kn := { coK with C := [(25, cAnyN)] }
theorem kCoH_ok : KnOk Tryd.prog pG kCoH := coK_ok.with (.cons anyN_ok .nil)
theorem poss_ok : CtrOk Tryd.prog pG 18 cPoss := by
  refine ctr_of_awp (K := kCoH) kCoH_ok Tryd.func18 rfl rfl Tryd.call18 rfl (by decide) (by intro h; cases h) ?_
  rintro w0 X hX ⟨(v : List Int), (g : Int), (n : Int), _⟩ hp
  change AWP _ _ _ _ _ ⟨[(0, ⟨ints, v⟩), (1, ⟨i64, g⟩), (2, ⟨i64, n⟩)], [], 0⟩ _
  (repeat (first | refine AWP.seq ?_ | refine AWP.skip ?_ | refine AWP.block ?_ | refine AWP.exit ?_)); refine AWP.region hX kCoH_ok rfl ?_ ?_
  · trivial
  (repeat (first | refine AWP.seq ?_ | refine AWP.skip ?_ | refine AWP.block ?_ | refine AWP.exit ?_)); refine AWP.region hX kCoH_ok rfl ?_ ?_
  · trivial
  refine AWP.join (σ' := ⟨[(0, ⟨ints, v⟩), (2, ⟨i64, n⟩), (7, ⟨.optr i64, ⟨0, i64, .here⟩⟩)], [(0, some (.box i64 (mostS g)))], 1⟩) ?_ ?_
  · (repeat (first | refine AWP.seq ?_ | refine AWP.skip ?_ | refine AWP.block ?_ | refine AWP.exit ?_)); refine AWP.region hX kCoH_ok rfl ?_ ?_
    · trivial
    refine AWP.cond rfl (fun hb => ?_) (fun hb => ?_)
    · have hb : decide (g ≥ 3) = true := hb
      have hb := of_decide_eq_true hb
      (repeat (first | refine AWP.seq ?_ | refine AWP.skip ?_ | refine AWP.block ?_ | refine AWP.exit ?_)); refine AWP.region hX kCoH_ok rfl ?_ ?_
      · trivial
      exact ⟨⟨rfl, rfl, rfl, trivial⟩, ⟨boxInt (if_pos hb).symm, trivial⟩, rfl, rfl⟩
    · have hb : decide (g ≥ 3) = false := hb
      have hb := of_decide_eq_false hb
      (repeat (first | refine AWP.seq ?_ | refine AWP.skip ?_ | refine AWP.label ?_ | refine AWP.exit ?_ | refine AWP.block ?_ | refine AWP.region hX kCoH_ok rfl trivial ?_ | refine AWP.region hX kCoH_ok rfl id ?_ | refine AWP.region hX kCoH_ok rfl ⟨id, id⟩ ?_))
      exact ⟨⟨rfl, rfl, rfl, trivial⟩, ⟨boxInt (if_neg hb).symm, trivial⟩, rfl, rfl⟩
  refine AWP.frzB hX 7 ?_
  (repeat (first | refine AWP.seq ?_ | refine AWP.skip ?_ | refine AWP.block ?_ | refine AWP.exit ?_)); refine AWP.region hX kCoH_ok rfl ?_ ?_
  · repeat' (first | exact trivial | assumption | (refine ⟨?_, ?_⟩) | (intro _))
  refine AWP.ret ⟨.inr rfl, done1 rfl trivial rfl rfl ?_⟩
  show (bif (((v.length : Nat) : Int) == n) then !v.any (offV (mostS g)) else false) = _
  rw [b_and]
  rfl
/-- what is seen of a cell at a grain -/
def bitsS (to x : Int) : Int := if to ≤ 2 then min x 1 else x
def cBits : Ctr := { args := [i64, .vptr i64], pre := fun _ => [], res := i64, own := none, out := fun x => bitsS x.2.1 x.1 }
theorem bits_range {to x : Int} (h : 0 ≤ x ∧ x ≤ 255) : 0 ≤ bitsS to x ∧ bitsS to x ≤ 255 := by
  unfold bitsS; split <;> omega
def orI (a b : Int) : Int := ((a.toNat ||| b.toNat : Nat) : Int)
theorem orI_range {a b : Int} (ha : 0 ≤ a ∧ a ≤ 255) (hb : 0 ≤ b ∧ b ≤ 255) : 0 ≤ orI a b ∧ orI a b ≤ 255 := by
  unfold orI
  have h : a.toNat ||| b.toNat < 2 ^ 8 := Nat.or_lt_two_pow (by omega) (by omega)
  omega
/-- the or of all -/
def orS (l : List Int) : Int := l.foldl orI 0
theorem orS_snoc (l : List Int) (x : Int) : orS (l ++ [x]) = orI (orS l) x := by unfold orS; rw [List.foldl_append]; rfl
theorem orS_range {l : List Int} (h : ∀ x ∈ l, 0 ≤ x ∧ x ≤ 255) : 0 ≤ orS l ∧ orS l ≤ 255 := by
  suffices k : ∀ a : Int, 0 ≤ a ∧ a ≤ 255 → 0 ≤ l.foldl orI a ∧ l.foldl orI a ≤ 255 from k 0 (by decide)
  induction l with
  | nil => exact fun a h => h
  | cons x r ih => exact fun a ha => ih (fun y hy => h y (List.mem_cons_of_mem _ hy)) _ (orI_range ha (h x (List.mem_cons_self ..)))
end Go.Proofs.YtbbeldmcdjjnbaaDoor
