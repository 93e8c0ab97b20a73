/-
  The reference of chapter 25: Subset, Stricter, Same, decimal, who, Format.
-/
import Derived.Test.YtbbeldmcdjjnbaaGreatDoorPRefB
namespace Go.Proofs.YtbbeldmcdjjnbaaGreatDoor
open Go Go.RowKit
set_option linter.unusedSimpArgs false
set_option linter.unusedVariables false
set_option maxRecDepth 100000
/-- the elements whose bits are set -/
def sub {α : Type} : List α → Nat → List α
  | [], _ => []
  | x :: r, b => if b % 2 = 1 then x :: sub r (b / 2) else sub r (b / 2)
theorem sub_snoc {α : Type} (l : List α) (x : α) : ∀ b, sub (l ++ [x]) b = sub l b ++ if b / 2 ^ l.length % 2 = 1 then [x] else [] := by
  induction l with
  | nil => intro b; simp only [List.nil_append, sub, List.length_nil, Nat.pow_zero, Nat.div_one]
  | cons y r ih =>
    intro b
    have e : b / 2 / 2 ^ r.length = b / 2 ^ (r.length + 1) := by rw [Nat.div_div_eq_div_mul, Nat.pow_succ, Nat.mul_comm]
    simp only [List.cons_append, sub, List.length_cons]
    rw [ih, e]
    split <;> rfl
theorem sub_length {α : Type} (l : List α) : ∀ b, (sub l b).length ≤ l.length := by
  induction l with
  | nil => intro b; exact Nat.le_refl _
  | cons y r ih => intro b; have := ih (b / 2); unfold sub; split <;> simp only [List.length_cons] <;> omega
def cSubset : Ctr := { args := [ints, i64], pre := fun x => [List.length x.1 ≤ 1000, 0 ≤ x.2.1, x.2.1 ≤ 1000000000], res := ints, own := none, out := fun x => sub x.1 x.2.1.toNat }
/-- the reference's comparison: all people and all sets of the teams that occur -/
def rstr (l m : List Gt) : Bool := decide (OkP l) && decide (OkP m) && (people l m).all (fun p => (List.range (2 ^ (teams l m).length)).all (fun b => less l m p (sub (teams l m) b)))
def cRStr : Ctr := { args := [po, po], pre := fun x => [List.length (teams x.1.1 x.2.1.1) ≤ 10], res := .bool, own := none, out := fun x => rstr x.1.1 x.2.1.1 }
theorem eqb_gr (x y : Gt) : eqb gr x y = decide (x = y) := by
  rw [Bool.eq_iff_iff, decide_eq_true_iff]
  exact eqb_iff
def cPSame : Ctr := { args := [po, po], pre := fun _ => [], res := .bool, own := none, out := fun x => decide (x.1.1 = x.2.1.1) }
/-- the digits of a number -/
def dec (n : Nat) : List UInt8 := if n < 10 then [UInt8.ofNat (48 + n)] else dec (n / 10) ++ [UInt8.ofNat (48 + n % 10)]
decreasing_by omega
theorem dec_small {n : Nat} (h : n < 10) : dec n = [UInt8.ofNat (48 + n)] := by rw [dec, if_pos h]
theorem dec_big {n : Nat} (h : ¬ n < 10) : dec n = dec (n / 10) ++ [UInt8.ofNat (48 + n % 10)] := by rw [dec, if_neg h]
theorem dec_length : ∀ (n : Nat), n ≤ 1000000 → (dec n).length ≤ 7 := by
  have h1 : ∀ n, n < 10 → (dec n).length = 1 := fun n h => by rw [dec_small h]; rfl
  have hs : ∀ n k, (dec (n / 10)).length ≤ k → (dec n).length ≤ k + 1 := fun n k h => by
    by_cases c : n < 10
    · rw [h1 n c]; omega
    · rw [dec_big c, List.length_append, List.length_singleton]; omega
  intro n hn
  refine hs _ _ (hs _ _ (hs _ _ (hs _ _ (hs _ _ (hs _ _ ?_)))))
  rw [h1 _ (by omega)]
  exact Nat.le_refl _
def cDec (k : Nat) : Ctr := { args := [i64], pre := fun x => [0 ≤ x.1, x.1 < (k : Nat), x.1 ≤ 1000000], res := .str, own := none, out := fun x => dec x.1.toNat }
/-- a number's digits, for numbers up to 1000000 -/
def cDecimal : Ctr := { args := [i64], pre := fun x => [0 ≤ x.1, x.1 ≤ 1000000], res := .str, own := none, out := fun x => dec x.1.toNat }
def sPerson : List UInt8 := [112, 101, 114, 115, 111, 110, 32]
def sTeam : List UInt8 := [116, 101, 97, 109, 32]
def sAll : List UInt8 := [97, 108, 108]
def sAsk : List UInt8 := [97, 115, 107, 32]
def sBook : List UInt8 := [98, 111, 111, 107, 32]
def sMove : List UInt8 := [109, 111, 118, 101, 32]
def sGrain : List UInt8 := [32, 103, 114, 97, 105, 110, 32]
def sRank : List UInt8 := [32, 114, 97, 110, 107, 32]
def whoT (g : Gt) : List UInt8 := if 0 ≤ gP g then sPerson ++ dec (gP g).toNat else if 0 ≤ gT g then sTeam ++ dec (gT g).toNat else sAll
def lineT (g : Gt) : List UInt8 := (if gA g = 1 then sAsk ++ whoT g ++ sGrain ++ dec (gG g).toNat else if gA g = 2 then sBook ++ whoT g else sMove ++ whoT g ++ sRank ++ dec (gR g).toNat) ++ [10]
def text (l : List Gt) : List UInt8 := (l.map lineT).flatten
def cWho : Ctr := { args := [gr], pre := fun x => [gP x.1 ≤ 1000000, gT x.1 ≤ 1000000], res := .str, own := none, out := fun x => whoT x.1 }
theorem whoT_length {g : Gt} (h1 : gP g ≤ 1000000) (h2 : gT g ≤ 1000000) : (whoT g).length ≤ 14 := by
  unfold whoT
  split
  · have := dec_length (gP g).toNat (by omega)
    rw [List.length_append]
    show 7 + _ ≤ _
    omega
  · split
    · have := dec_length (gT g).toNat (by omega)
      rw [List.length_append]
      show 5 + _ ≤ _
      omega
    · decide
theorem lineT_length {g : Gt} (h : OkG g) : (lineT g).length ≤ 40 := by
  have h1 := h.2.1
  have h2 := h.2.2.1
  have h3 := h.2.2.2.1
  have hw := whoT_length (g := g) (by omega) (by omega)
  have hg := dec_length (gG g).toNat (by omega)
  have hr := dec_length (gR g).toNat (by omega)
  unfold lineT
  rw [List.length_append]
  split
  · simp only [List.length_append]
    show 4 + _ + 7 + _ + 1 ≤ _
    omega
  · split
    · simp only [List.length_append]
      show 5 + _ + 1 ≤ _
      omega
    · simp only [List.length_append]
      show 5 + _ + 6 + _ + 1 ≤ _
      omega
theorem text_length {l : List Gt} (h : ∀ g ∈ l, OkG g) : (text l).length ≤ 40 * l.length := by
  induction l with
  | nil => exact Nat.le_refl _
  | cons g r ih =>
    have h1 := lineT_length (h g (List.mem_cons_self ..))
    have h2 := ih fun x hx => h x (List.mem_cons_of_mem _ hx)
    show (lineT g ++ text r).length ≤ _
    rw [List.length_append, List.length_cons]
    omega
theorem text_snoc (l : List Gt) (g : Gt) : text (l ++ [g]) = text l ++ lineT g := by unfold text; simp
def cFormat : Ctr := { args := [po], pre := fun x => [OkP x.1.1], res := .str, own := none, out := fun x => text x.1.1 }
def sFmt (l : List Gt) (k : Nat) (s : List UInt8) (g : Gt) : AS := ⟨[(1, ⟨.optr po, ⟨0, po, .here⟩⟩), (3, ⟨.str, s⟩), (4, ⟨i64, (k : Int)⟩), (5, ⟨.optr gr, ⟨1, gr, .here⟩⟩)], [(0, some (.box po (l, ()))), (1, some (.box gr g))], 2⟩
end Go.Proofs.YtbbeldmcdjjnbaaGreatDoor
