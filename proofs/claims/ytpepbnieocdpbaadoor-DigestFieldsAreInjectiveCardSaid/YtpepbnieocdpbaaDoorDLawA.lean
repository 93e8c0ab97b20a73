/-
  The statements of chapter 03, what they share: all contracts; short, few, sanity.
-/
import Derived.Test.YtpepbnieocdpbaaDoorDPrgF
namespace Go.Proofs.YtpepbnieocdpbaaDoor
open Go Go.RowKit
set_option linter.unusedSimpArgs false
set_option linter.unusedVariables false
set_option maxRecDepth 100000
def cL : Ctrs := [(15, cSum), (17, cKeyed), (19, cFields), (21, cHex), (23, cUnhex),
  (16, cRSum), (18, cRKeyed), (20, cRFields), (22, cRHex), (24, cRUnhex),
  (26, cBytes), (25, cBlock), (27, cEncoding), (28, cSame), (29, cDigit)]
theorem cL_ok : CsOk Tryd.prog dG cL :=
  .cons sum_ok <| .cons keyed_ok <| .cons fields_ok <| .cons hex_ok <| .cons unhex_ok <| .cons rsum_ok <| .cons rkeyed_ok <| .cons rfields_ok <| .cons rhex_ok <| .cons runhex_ok <|
    .cons bytes_ok <| .cons block_ok <| .cons encoding_ok <| .cons same_ok <| .cons digit_ok .nil
def kL : Kn := { dK with C := cL }
theorem kL_ok : KnOk Tryd.prog dG kL := dK_ok.with cL_ok
def cShort : Ctr := { args := [bs, i64], pre := fun x => [0 ≤ (x.2.1 : Int), (x.2.1 : Int) ≤ 1000000], res := bs, own := none, out := fun x => List.take (Int.toNat x.2.1) x.1 }
theorem short_ok : CtrOk Tryd.prog dG 13 cShort := by
  refine ctr_of_awp (K := kL) kL_ok Tryd.func13 rfl rfl Tryd.call13 rfl (by decide) (by intro h; cases h) ?_
  rintro w0 X hX ⟨(l : List UInt8), (n : Int), _⟩ hp
  change AWP _ _ _ _ _ ⟨[(0, ⟨bs, l⟩), (1, ⟨i64, n⟩)], [], 0⟩ _
  obtain ⟨h0, h1⟩ : 0 ≤ n ∧ n ≤ 1000000 := hp
  (repeat (first | refine AWP.seq ?_ | refine AWP.skip ?_ | refine AWP.label ?_ | refine AWP.exit ?_ | refine AWP.block ?_ | refine AWP.region hX kL_ok rfl trivial ?_ | refine AWP.region hX kL_ok rfl id ?_ | refine AWP.region hX kL_ok rfl ⟨id, id⟩ ?_))
  (repeat (first | refine AWP.seq ?_ | refine AWP.skip ?_ | refine AWP.block ?_ | refine AWP.exit ?_)); refine AWP.region hX kL_ok rfl ?_ ?_
  · refine ⟨by show (0 : Int) ≤ min (l.length : Int) n; omega, by show min (l.length : Int) n ≤ (l.length : Int); omega⟩
  refine AWP.ret ⟨.inr rfl, done1 rfl trivial rfl rfl ?_⟩
  show l.take (min (l.length : Int) n).toNat = l.take n.toNat
  rw [List.take_eq_take_iff]
  omega
def cFew : Ctr := { args := [.slice bs], pre := fun _ => [], res := .slice bs, own := some 22, out := fun x => (List.take 8 x.1).map (List.take 100) }
def kL2 : Kn := { dK with C := (13, cShort) :: cL }
theorem kL2_ok : KnOk Tryd.prog dG kL2 := dK_ok.with (.cons short_ok cL_ok)
theorem few_ok : CtrOk Tryd.prog dG 14 cFew := by
  refine ctr_of_awp (K := kL2) kL2_ok Tryd.func14 rfl rfl Tryd.call14 rfl (by decide) (by intro h; cases h) ?_
  rintro w0 X hX ⟨(l : List (List UInt8)), _⟩ hp
  change AWP _ _ _ _ _ ⟨[(0, ⟨.slice bs, l⟩)], [], 0⟩ _
  refine AWP.len 0 rfl fun hl => ?_
  unfold maxLen at hl
  (repeat (first | refine AWP.seq ?_ | refine AWP.skip ?_ | refine AWP.label ?_ | refine AWP.exit ?_ | refine AWP.block ?_ | refine AWP.region hX kL2_ok rfl trivial ?_ | refine AWP.region hX kL2_ok rfl id ?_ | refine AWP.region hX kL2_ok rfl ⟨id, id⟩ ?_))
  refine AWP.loop (ι := Nat) (fun k => ⟨[(0, ⟨.slice bs, l⟩), (3, ⟨.obuf bs, (0 : Nat)⟩), (4, ⟨i64, (k : Int)⟩)], [(0, some (.buf 22 bs ((l.take k).map (List.take 100))))], 1⟩) (fun k => k ≤ l.length ∧ k ≤ 8) (fun k => l.length - k) 0 (by omega) ⟨⟨rfl, rfl, rfl, trivial⟩, ⟨rfl, trivial⟩, rfl, rfl⟩ ?_
  intro k hk
  (repeat (first | refine AWP.seq ?_ | refine AWP.skip ?_ | refine AWP.label ?_ | refine AWP.exit ?_ | refine AWP.block ?_ | refine AWP.region hX kL2_ok rfl trivial ?_ | refine AWP.region hX kL2_ok rfl id ?_ | refine AWP.region hX kL2_ok rfl ⟨id, id⟩ ?_))
  refine AWP.cond rfl (fun hb => ?_) (fun hb => ?_)
  · have hb : (bif decide ((k : Int) < (l.length : Int)) then decide ((k : Int) < 8) else false) = true := hb
    rw [test2] at hb
    (repeat (first | refine AWP.seq ?_ | refine AWP.skip ?_ | refine AWP.block ?_ | refine AWP.exit ?_)); refine AWP.region hX kL2_ok rfl ?_ ?_
    · refine ⟨by omega, by omega, by show (0 : Int) ≤ 100; omega, by show (100 : Int) ≤ 1000000; omega, ?_⟩
      show List.length ((l.take k).map (List.take 100)) + 1 ≤ 1000000000
      rw [List.length_map, List.length_take]; omega
    (repeat (first | refine AWP.seq ?_ | refine AWP.skip ?_ | refine AWP.block ?_ | refine AWP.exit ?_)); refine AWP.region hX kL2_ok rfl ?_ ?_
    · exact inR_succ (by omega)
    refine ⟨k + 1, by omega, by omega, ⟨rfl, rfl, vSucc _, trivial⟩, ⟨bufEq ?_, trivial⟩, rfl, rfl⟩
    rw [List.take_succ_eq_append_getElem (by omega : k < l.length), List.map_append]
    show _ ++ [_] = _ ++ [_]
    congr 2
    show List.take 100 (List.getD l (k : Int).toNat []) = _
    rw [Int.toNat_natCast, List.getD_eq_getElem?_getD, List.getElem?_eq_getElem (by omega : k < l.length)]
    rfl
  · have hb : (bif decide ((k : Int) < (l.length : Int)) then decide ((k : Int) < 8) else false) = false := hb
    have hb : ¬ ((k : Int) < (l.length : Int) ∧ (k : Int) < 8) := fun h => by rw [← Bool.not_eq_true, test2] at hb; exact hb h
    (repeat (first | refine AWP.seq ?_ | refine AWP.skip ?_ | refine AWP.label ?_ | refine AWP.exit ?_ | refine AWP.block ?_ | refine AWP.region hX kL2_ok rfl trivial ?_ | refine AWP.region hX kL2_ok rfl id ?_ | refine AWP.region hX kL2_ok rfl ⟨id, id⟩ ?_))
    refine AWP.ret ⟨.inr rfl, doneO rfl rfl ?_⟩
    show (l.take k).map (List.take 100) = (l.take 8).map (List.take 100)
    congr 1
    rw [List.take_eq_take_iff]
    omega
/-! ### the fixed examples -/
theorem chain6 {a b c d e f : Bool} (ha : a = true) (hb : b = true) (hc : c = true) (hd : d = true) (he : e = true) (hf : f = true) : (bif (bif (bif (bif (bif a then b else false) then c else false) then d else false) then e else false) then f else false) = true := by
  subst ha; subst hb; subst hc; subst hd; subst he; subst hf; rfl
def emptyHex : List UInt8 := [101, 51, 98, 48, 99, 52, 52, 50, 57, 56, 102, 99, 49, 99, 49, 52, 57, 97, 102, 98, 102, 52, 99, 56, 57, 57, 54, 102, 98, 57, 50, 52, 50, 55, 97, 101, 52, 49, 101, 52, 54, 52, 57, 98, 57, 51, 52, 99, 97, 52, 57, 53, 57, 57, 49, 98, 55, 56, 53, 50, 98, 56, 53, 53]
theorem ex1 : hex (sha []) = emptyHex := by decide +kernel
def abcHex : List UInt8 := [98, 97, 55, 56, 49, 54, 98, 102, 56, 102, 48, 49, 99, 102, 101, 97, 52, 49, 52, 49, 52, 48, 100, 101, 53, 100, 97, 101, 50, 50, 50, 51, 98, 48, 48, 51, 54, 49, 97, 51, 57, 54, 49, 55, 55, 97, 57, 99, 98, 52, 49, 48, 102, 102, 54, 49, 102, 50, 48, 48, 49, 53, 97, 100]
theorem ex2 : hex (sha [97, 98, 99]) = abcHex := by decide +kernel
def hmacHex : List UInt8 := [98, 48, 51, 52, 52, 99, 54, 49, 100, 56, 100, 98, 51, 56, 53, 51, 53, 99, 97, 56, 97, 102, 99, 101, 97, 102, 48, 98, 102, 49, 50, 98, 56, 56, 49, 100, 99, 50, 48, 48, 99, 57, 56, 51, 51, 100, 97, 55, 50, 54, 101, 57, 51, 55, 54, 99, 50, 101, 51, 50, 99, 102, 102, 55]
theorem ex3 : hex (hmac (List.replicate 20 (11 : UInt8) ++ List.replicate 12 0) [72, 105, 32, 84, 104, 101, 114, 101]) = hmacHex := by decide +kernel
theorem ex4 : ((unhexR emptyHex).2.1 == (0 : Int)) = true := by decide +kernel
theorem ex5 : (unhexR emptyHex).1 = fields [] := by decide +kernel
theorem ex6 : ((unhexR (emptyHex.drop 1)).2.1 == (3 : Int)) = true := by decide +kernel
def cSanity : Ctr := { args := [], pre := fun _ => [], res := .bool, own := none, out := fun _ => true }
theorem sanity_ok : CtrOk Tryd.prog dG 12 cSanity := by
  refine ctr_of_awp (K := kL) kL_ok Tryd.func12 rfl rfl Tryd.call12 rfl (by decide) (by intro h; cases h) ?_
  rintro w0 X hX _ hp
  change AWP _ _ _ _ _ ⟨[], [], 0⟩ _
  (repeat (first | refine AWP.seq ?_ | refine AWP.skip ?_ | refine AWP.label ?_ | refine AWP.exit ?_ | refine AWP.block ?_ | refine AWP.region hX kL_ok rfl trivial ?_ | refine AWP.region hX kL_ok rfl id ?_ | refine AWP.region hX kL_ok rfl ⟨id, id⟩ ?_))
  refine AWP.loop (ι := Nat) (fun k => ⟨[(1, ⟨.optr dg, ⟨0, dg, .here⟩⟩), (2, ⟨i64, (k : Int)⟩)], [(0, some (.box dg (List.replicate k (11 : UInt8) ++ List.replicate (32 - k) 0)))], 1⟩) (fun k => k ≤ 20) (fun k => 20 - k) 0 (by omega) ⟨⟨rfl, rfl, trivial⟩, ⟨boxEq rfl, trivial⟩, rfl, rfl⟩ ?_
  intro k hk
  (repeat (first | refine AWP.seq ?_ | refine AWP.skip ?_ | refine AWP.label ?_ | refine AWP.exit ?_ | refine AWP.block ?_ | refine AWP.region hX kL_ok rfl trivial ?_ | refine AWP.region hX kL_ok rfl id ?_ | refine AWP.region hX kL_ok rfl ⟨id, id⟩ ?_))
  refine AWP.cond rfl (fun hb => ?_) (fun hb => ?_)
  · simp at hb
    (repeat (first | refine AWP.seq ?_ | refine AWP.skip ?_ | refine AWP.block ?_ | refine AWP.exit ?_)); refine AWP.region hX kL_ok rfl ?_ ?_
    · (simp only [allP, inR64]; (and_intros <;> first | omega | (simp; done) | (simp; omega)))
    (repeat (first | refine AWP.seq ?_ | refine AWP.skip ?_ | refine AWP.block ?_ | refine AWP.exit ?_)); refine AWP.region hX kL_ok rfl ?_ ?_
    · exact inR_succ (by omega)
    refine ⟨k + 1, by omega, by omega, ⟨rfl, vSucc _, trivial⟩, ⟨boxEq ?_, trivial⟩, rfl, rfl⟩
    show (List.replicate k (11 : UInt8) ++ List.replicate (32 - k) 0).set (k : Int).toNat 11 = _
    rw [Int.toNat_natCast, List.set_append_right _ _ (by simp), List.length_replicate, Nat.sub_self, show 32 - k = (32 - (k + 1)) + 1 by omega, List.replicate_succ, List.set_cons_zero, List.replicate_succ', List.append_assoc]
    rfl
  · simp at hb
    have : k = 20 := by omega
    subst this
    (repeat (first | refine AWP.seq ?_ | refine AWP.skip ?_ | refine AWP.label ?_ | refine AWP.exit ?_ | refine AWP.block ?_ | refine AWP.region hX kL_ok rfl trivial ?_ | refine AWP.region hX kL_ok rfl id ?_ | refine AWP.region hX kL_ok rfl ⟨id, id⟩ ?_))
    (repeat (first | refine AWP.seq ?_ | refine AWP.skip ?_ | refine AWP.block ?_ | refine AWP.exit ?_)); refine AWP.region hX kL_ok rfl ?_ ?_
    · exact ⟨by decide, (show (1 : Int) ≤ 64 by decide)⟩
    (repeat (first | refine AWP.seq ?_ | refine AWP.skip ?_ | refine AWP.block ?_ | refine AWP.exit ?_)); refine AWP.drawM dM hX kL_ok 33 (by kernel_rfl) rfl rfl ?_ ?_ ?_
    · repeat' (first | exact trivial | assumption | (refine ⟨?_, ?_⟩) | (intro _) | exact Nat.le_of_ble_eq_true rfl)
    · trivial
    refine AWP.ret ⟨.inr rfl, done1 rfl trivial rfl rfl ?_⟩
    exact chain6 (eqb_iff.2 ex1) (eqb_iff.2 ex2) (eqb_iff.2 ex3) ex4 (eqb_iff.2 ex5) ex6
end Go.Proofs.YtpepbnieocdpbaaDoor
