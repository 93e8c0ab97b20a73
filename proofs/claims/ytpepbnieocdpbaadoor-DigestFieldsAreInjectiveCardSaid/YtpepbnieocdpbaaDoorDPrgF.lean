/-
  Package digest, sixth part: Sum, Fields, Keyed.
-/
import Derived.Test.YtpepbnieocdpbaaDoorDPrgE
import Derived.Test.YtpepbnieocdpbaaDoorAbsBox
namespace Go.Proofs.YtpepbnieocdpbaaDoor
open Go Go.RowKit
set_option linter.unusedSimpArgs false
set_option linter.unusedVariables false
set_option maxRecDepth 100000
def kH : Kn := { dK with C := [(30, cHash)] }
theorem kH_ok : KnOk Tryd.prog dG kH := dK_ok.with (CsOk.cons hash_ok CsOk.nil)
def cSum : Ctr := { args := [bs], pre := fun x => [List.length x.1 ≤ 2000000], res := dg, own := none, out := fun x => sha x.1 }
theorem sum_ok : CtrOk Tryd.prog dG 15 cSum := by
  refine ctr_of_awp (K := kH) kH_ok Tryd.func15 rfl rfl Tryd.call15 rfl (by decide) (by intro h; cases h) ?_
  rintro w0 X hX ⟨(l : List UInt8), _⟩ hp
  change AWP _ _ _ _ _ ⟨[(0, ⟨bs, l⟩)], [], 0⟩ _
  have hp : l.length ≤ 2000000 := hp
  (repeat (first | refine AWP.seq ?_ | refine AWP.skip ?_ | refine AWP.label ?_ | refine AWP.exit ?_ | refine AWP.block ?_ | refine AWP.region hX kH_ok rfl trivial ?_ | refine AWP.region hX kH_ok rfl id ?_ | refine AWP.region hX kH_ok rfl ⟨id, id⟩ ?_))
  (repeat (first | refine AWP.seq ?_ | refine AWP.skip ?_ | refine AWP.block ?_ | refine AWP.exit ?_)); refine AWP.region hX kH_ok rfl ?_ ?_
  · show List.length (List.flatten [l]) ≤ 2000000
    simpa using hp
  refine AWP.ret ⟨.inr rfl, done1 rfl trivial rfl rfl ?_⟩
  show sha (List.flatten [l]) = sha l
  simp
def encParts (l : List (List UInt8)) : List (List UInt8) := l.flatMap fun b => [le64 b.length, b]
theorem encParts_flatten (l : List (List UInt8)) : (encParts l).flatten = encoding l := by
  unfold encParts encoding
  induction l with
  | nil => rfl
  | cons b l ih => simp [ih]
theorem encParts_succ (l : List (List UInt8)) (k : Nat) (h : k < l.length) : encParts (l.take (k + 1)) = encParts (l.take k) ++ [le64 (l.getD k []).length, l.getD k []] := by
  unfold encParts
  rw [List.take_succ_eq_append_getElem h, List.flatMap_append]
  congr 1
  simp [List.getD, h]
theorem le64_set (n i : Nat) (h : i < 8) (y : UInt8) (hy : y = UInt8.ofNat (n / 2 ^ (8 * i))) : ((le64 n).take i ++ List.replicate (8 - i) 0).set i y = (le64 n).take (i + 1) ++ List.replicate (8 - (i + 1)) 0 := by
  subst hy
  rcases (by omega : i = 0 ∨ i = 1 ∨ i = 2 ∨ i = 3 ∨ i = 4 ∨ i = 5 ∨ i = 6 ∨ i = 7) with rfl | rfl | rfl | rfl | rfl | rfl | rfl | rfl <;> rfl
theorem le64_byte (n i : Nat) (h : n ≤ 9223372036854775807) (hi : i < 8) : UInt8.ofNat (BitVec.toNat (BitVec.ofInt 64 (n : Int) >>> (8 * (i : Int)).toNat)) = UInt8.ofNat (n / 2 ^ (8 * i)) := by
  congr 1
  rw [BitVec.toNat_ushiftRight, Nat.shiftRight_eq_div_pow, BitVec.toNat_ofInt]
  rw [show (8 * (i : Int)).toNat = 8 * i by omega]
  congr 1
  omega
theorem encParts_len (l : List (List UInt8)) : (encParts l).length = 2 * l.length := by
  unfold encParts
  induction l with
  | nil => rfl
  | cons b l ih => simp only [List.flatMap_cons, List.length_append, ih]; simp; omega
theorem encoding_ge (l : List (List UInt8)) : 8 * l.length ≤ (encoding l).length := by
  unfold encoding
  induction l with
  | nil => simp
  | cons b l ih => simp only [List.flatMap_cons, List.length_append, List.length_cons, le64, List.length_map, List.length_range] at ih ⊢; omega
def cFields : Ctr := { args := [.slice bs], pre := fun x => [(encoding x.1).length ≤ 2000000], res := dg, own := none, out := fun x => fields x.1 }
theorem fields_ok : CtrOk Tryd.prog dG 19 cFields := by
  refine ctr_of_awp (K := kH) kH_ok Tryd.func19 rfl rfl Tryd.call19 rfl (by decide) (by intro h; cases h) ?_
  rintro w0 X hX ⟨(l : List (List UInt8)), _⟩ hp
  change AWP _ _ _ _ _ ⟨[(0, ⟨.slice bs, l⟩)], [], 0⟩ _
  have hp : (encoding l).length ≤ 2000000 := hp
  have hl := encoding_ge l
  (repeat (first | refine AWP.seq ?_ | refine AWP.skip ?_ | refine AWP.block ?_ | refine AWP.exit ?_)); refine AWP.region hX kH_ok rfl ?_ ?_
  · trivial
  (repeat (first | refine AWP.seq ?_ | refine AWP.skip ?_ | refine AWP.block ?_ | refine AWP.exit ?_)); refine AWP.region hX kH_ok rfl ?_ ?_
  · trivial
  refine AWP.nilBuf hX 3 22 bs rfl rfl rfl ?_
  (repeat (first | refine AWP.seq ?_ | refine AWP.skip ?_ | refine AWP.label ?_ | refine AWP.exit ?_ | refine AWP.block ?_ | refine AWP.region hX kH_ok rfl trivial ?_ | refine AWP.region hX kH_ok rfl id ?_ | refine AWP.region hX kH_ok rfl ⟨id, id⟩ ?_))
  refine AWP.loop (ι := Nat) (fun k => ⟨[(2, ⟨.optr dg, ⟨0, dg, .here⟩⟩), (3, ⟨.obuf bs, (1 : Nat)⟩), (8, ⟨.slice bs, l⟩), (9, ⟨i64, (l.length : Int)⟩), (10, ⟨i64, (k : Int)⟩)], [(0, some (.box dg (List.replicate 32 (0 : UInt8)))), (1, some (.buf 22 bs (encParts (l.take k))))], 2⟩) (fun k => k ≤ l.length) (fun k => l.length - k) 0 (by omega) ⟨⟨rfl, rfl, rfl, rfl, rfl, trivial⟩, ⟨rfl, rfl, trivial⟩, rfl, rfl⟩ ?_
  intro k hk
  (repeat (first | refine AWP.seq ?_ | refine AWP.skip ?_ | refine AWP.label ?_ | refine AWP.exit ?_ | refine AWP.block ?_ | refine AWP.region hX kH_ok rfl trivial ?_ | refine AWP.region hX kH_ok rfl id ?_ | refine AWP.region hX kH_ok rfl ⟨id, id⟩ ?_))
  refine AWP.cond rfl (fun hb => ?_) (fun hb => ?_)
  · simp at hb
    (repeat (first | refine AWP.seq ?_ | refine AWP.skip ?_ | refine AWP.block ?_ | refine AWP.exit ?_)); refine AWP.region hX kH_ok rfl ?_ ?_
    · (simp only [allP, inR64]; (and_intros <;> first | omega | (simp; done) | (simp; omega)))
    refine AWP.len 5 rfl fun hml => ?_
    have hml : (l.getD k []).length ≤ maxLen := hml
    unfold maxLen at hml
    have hml2 : (l.getD (k : Int).toNat []).length = (l.getD k []).length := rfl
    (repeat (first | refine AWP.seq ?_ | refine AWP.skip ?_ | refine AWP.label ?_ | refine AWP.exit ?_ | refine AWP.block ?_ | refine AWP.region hX kH_ok rfl trivial ?_ | refine AWP.region hX kH_ok rfl id ?_ | refine AWP.region hX kH_ok rfl ⟨id, id⟩ ?_))
    refine AWP.loop (ι := Nat) (fun i => ⟨[(2, ⟨.optr dg, ⟨0, dg, .here⟩⟩), (3, ⟨.obuf bs, (1 : Nat)⟩), (5, ⟨bs, l.getD k []⟩), (6, ⟨.optr (.arr 8 u8), ⟨2, .arr 8 u8, .here⟩⟩), (8, ⟨.slice bs, l⟩), (9, ⟨i64, (l.length : Int)⟩), (10, ⟨i64, (k : Int)⟩), (14, ⟨i64, (i : Int)⟩)], [(0, some (.box dg (List.replicate 32 (0 : UInt8)))), (1, some (.buf 22 bs (encParts (l.take k)))), (2, some (.box (.arr 8 u8) ((le64 (l.getD k []).length).take i ++ List.replicate (8 - i) 0)))], 3⟩) (fun i => i ≤ 8) (fun i => 8 - i) 0 (by omega) ⟨⟨rfl, rfl, rfl, rfl, rfl, rfl, rfl, rfl, trivial⟩, ⟨rfl, rfl, rfl, trivial⟩, rfl, rfl⟩ ?_
    intro i hi
    (repeat (first | refine AWP.seq ?_ | refine AWP.skip ?_ | refine AWP.label ?_ | refine AWP.exit ?_ | refine AWP.block ?_ | refine AWP.region hX kH_ok rfl trivial ?_ | refine AWP.region hX kH_ok rfl id ?_ | refine AWP.region hX kH_ok rfl ⟨id, id⟩ ?_))
    refine AWP.cond rfl (fun hb => ?_) (fun hb => ?_)
    · simp at hb
      (repeat (first | refine AWP.seq ?_ | refine AWP.skip ?_ | refine AWP.label ?_ | refine AWP.exit ?_ | refine AWP.block ?_ | refine AWP.region hX kH_ok rfl trivial ?_ | refine AWP.region hX kH_ok rfl id ?_ | refine AWP.region hX kH_ok rfl ⟨id, id⟩ ?_))
      (repeat (first | refine AWP.seq ?_ | refine AWP.skip ?_ | refine AWP.block ?_ | refine AWP.exit ?_)); refine AWP.region hX kH_ok rfl ?_ ?_
      · (simp only [allP, inR64]; (and_intros <;> first | omega | (simp; done) | (simp; omega)))
      (repeat (first | refine AWP.seq ?_ | refine AWP.skip ?_ | refine AWP.block ?_ | refine AWP.exit ?_)); refine AWP.region hX kH_ok rfl ?_ ?_
      · exact inR_succ (by omega)
      refine ⟨i + 1, by omega, by omega, ⟨rfl, rfl, rfl, rfl, rfl, rfl, rfl, vSucc _, trivial⟩, ⟨rfl, rfl, boxEq ?_, trivial⟩, rfl, rfl⟩
      refine le64_set _ _ (by omega) _ ?_
      exact le64_byte _ _ (by omega) (by omega)
    · simp at hb
      have : i = 8 := by omega
      subst this
      (repeat (first | refine AWP.seq ?_ | refine AWP.skip ?_ | refine AWP.label ?_ | refine AWP.exit ?_ | refine AWP.block ?_ | refine AWP.region hX kH_ok rfl trivial ?_ | refine AWP.region hX kH_ok rfl id ?_ | refine AWP.region hX kH_ok rfl ⟨id, id⟩ ?_))
      refine AWP.frzB hX 6 ?_
      (repeat (first | refine AWP.seq ?_ | refine AWP.skip ?_ | refine AWP.block ?_ | refine AWP.exit ?_)); refine AWP.region hX kH_ok rfl ?_ ?_
      · show List.length (encParts (l.take k)) + List.length [_, _] ≤ 1000000000
        rw [encParts_len]
        simp
        omega
      (repeat (first | refine AWP.seq ?_ | refine AWP.skip ?_ | refine AWP.block ?_ | refine AWP.exit ?_)); refine AWP.region hX kH_ok rfl ?_ ?_
      · exact inR_succ (by omega)
      refine ⟨k + 1, by omega, by omega, ⟨rfl, rfl, rfl, rfl, vSucc _, trivial⟩, ⟨rfl, bufEq ?_, trivial⟩, rfl, rfl⟩
      rw [encParts_succ _ _ (by omega)]
      rfl
  · simp at hb
    have : k = l.length := by omega
    subst this
    (repeat (first | refine AWP.seq ?_ | refine AWP.skip ?_ | refine AWP.label ?_ | refine AWP.exit ?_ | refine AWP.block ?_ | refine AWP.region hX kH_ok rfl trivial ?_ | refine AWP.region hX kH_ok rfl id ?_ | refine AWP.region hX kH_ok rfl ⟨id, id⟩ ?_))
    (repeat (first | refine AWP.seq ?_ | refine AWP.skip ?_ | refine AWP.block ?_ | refine AWP.exit ?_)); refine AWP.region hX kH_ok rfl ?_ ?_
    · show (encParts (l.take l.length)).flatten.length ≤ 2000000
      rw [List.take_length, encParts_flatten]
      exact hp
    refine AWP.ret ⟨.inr rfl, done1 rfl trivial rfl rfl ?_⟩
    show sha (encParts (l.take l.length)).flatten = fields l
    rw [List.take_length, encParts_flatten]
    rfl
def mixX (l : List UInt8) (c : UInt8) (i : Nat) : List UInt8 := (l.take i).map (· ^^^ c) ++ l.drop i
theorem mixX_set (l : List UInt8) (c : UInt8) (i : Nat) (h : i < l.length) : (mixX l c i).set i ((mixX l c i).getD i 0 ^^^ c) = mixX l c (i + 1) := by
  unfold mixX
  have hl : ((l.take i).map (· ^^^ c)).length = i := by simp; omega
  have hg : (((l.take i).map (· ^^^ c)) ++ l.drop i).getD i 0 = l[i] := by
    rw [List.getD_eq_getElem?_getD, List.getElem?_append_right (by omega), hl]
    simp [h]
  rw [hg, List.set_append_right _ _ (by omega), hl, Nat.sub_self, List.drop_eq_getElem_cons h, List.set_cons_zero, List.take_succ_eq_append_getElem h, List.map_append]
  simp only [List.map_cons, List.map_nil, List.append_assoc, List.cons_append, List.nil_append]
theorem mixX_all (key : List UInt8) (c : UInt8) (h : key.length = 32) : mixX (key ++ List.replicate 32 0) c 64 = keyBlock key c := by
  unfold mixX keyBlock
  rw [List.take_of_length_le (by simp [h]), List.drop_eq_nil_of_le (by simp [h])]
  simp
theorem mixX_zero (l : List UInt8) (c : UInt8) : l = mixX l c 0 := rfl
theorem mixX_len (l : List UInt8) (c : UInt8) (i : Nat) : (mixX l c i).length = l.length := by
  unfold mixX; simp; omega
def cKeyed : Ctr := { args := [dg, bs], pre := fun x => [List.length x.2.1 ≤ 1000000], res := dg, own := none, out := fun x => hmac x.1 x.2.1 }
theorem keyed_ok : CtrOk Tryd.prog dG 17 cKeyed := by
  refine ctr_of_awp (K := kH) kH_ok Tryd.func17 rfl rfl Tryd.call17 rfl (by decide) (by intro h; cases h) ?_
  rintro w0 X hX ⟨(key : List UInt8), (l : List UInt8), _⟩ hp
  change AWP _ _ _ _ _ ⟨[(0, ⟨dg, key⟩), (1, ⟨bs, l⟩)], [], 0⟩ _
  have hp : l.length ≤ 1000000 := hp
  refine AWP.alen 0 rfl fun hkl => ?_
  have hkl : key.length = 32 := hkl
  (repeat (first | refine AWP.seq ?_ | refine AWP.skip ?_ | refine AWP.block ?_ | refine AWP.exit ?_)); refine AWP.region hX kH_ok rfl ?_ ?_
  · trivial
  (repeat (first | refine AWP.seq ?_ | refine AWP.skip ?_ | refine AWP.block ?_ | refine AWP.exit ?_)); refine AWP.region hX kH_ok rfl ?_ ?_
  · trivial
  refine AWP.frzB hX 2 ?_
  refine AWP.seq ?_
  refine AWP.copyArr dM hX kH_ok rfl rfl rfl rfl rfl rfl rfl rfl rfl rfl rfl rfl rfl rfl rfl (by decide) (by decide) (by decide) (by decide) (by decide) (by decide) (by kernel_rfl) ?_
  obtain ⟨base, hbase⟩ : ∃ base, key ++ List.replicate 32 0 = base := ⟨_, rfl⟩
  have hbl : base.length = 64 := by rw [← hbase]; simp [hkl]
  (repeat (first | refine AWP.seq ?_ | refine AWP.skip ?_ | refine AWP.label ?_ | refine AWP.exit ?_ | refine AWP.block ?_ | refine AWP.region hX kH_ok rfl trivial ?_ | refine AWP.region hX kH_ok rfl id ?_ | refine AWP.region hX kH_ok rfl ⟨id, id⟩ ?_))
  refine AWP.loop (ι := Nat) (fun i => ⟨[(1, ⟨bs, l⟩), (4, ⟨.optr dg, ⟨1, dg, .here⟩⟩), (5, ⟨.optr (.arr 64 u8), ⟨2, .arr 64 u8, .here⟩⟩), (6, ⟨.optr (.arr 64 u8), ⟨3, .arr 64 u8, .here⟩⟩), (13, ⟨i64, (i : Int)⟩)], [(1, some (.box dg (List.replicate 32 (0 : UInt8)))), (2, some (.box (.arr 64 u8) (mixX base 0x36 i))), (3, some (.box (.arr 64 u8) (mixX base 0x5c i)))], 4⟩) (fun i => i ≤ 64) (fun i => 64 - i) 0 (by omega) ⟨⟨rfl, rfl, rfl, rfl, rfl, trivial⟩, ⟨rfl, boxEq hbase, boxEq hbase, trivial⟩, rfl, rfl⟩ ?_
  intro i hi
  (repeat (first | refine AWP.seq ?_ | refine AWP.skip ?_ | refine AWP.label ?_ | refine AWP.exit ?_ | refine AWP.block ?_ | refine AWP.region hX kH_ok rfl trivial ?_ | refine AWP.region hX kH_ok rfl id ?_ | refine AWP.region hX kH_ok rfl ⟨id, id⟩ ?_))
  refine AWP.cond rfl (fun hb => ?_) (fun hb => ?_)
  · simp at hb
    (repeat (first | refine AWP.seq ?_ | refine AWP.skip ?_ | refine AWP.label ?_ | refine AWP.exit ?_ | refine AWP.block ?_ | refine AWP.region hX kH_ok rfl trivial ?_ | refine AWP.region hX kH_ok rfl id ?_ | refine AWP.region hX kH_ok rfl ⟨id, id⟩ ?_))
    (repeat (first | refine AWP.seq ?_ | refine AWP.skip ?_ | refine AWP.block ?_ | refine AWP.exit ?_)); refine AWP.region hX kH_ok rfl ?_ ?_
    · (simp only [allP, inR64]; (and_intros <;> first | omega | (simp; done) | (simp; omega)))
    (repeat (first | refine AWP.seq ?_ | refine AWP.skip ?_ | refine AWP.block ?_ | refine AWP.exit ?_)); refine AWP.region hX kH_ok rfl ?_ ?_
    · (simp only [allP, inR64]; (and_intros <;> first | omega | (simp; done) | (simp; omega)))
    (repeat (first | refine AWP.seq ?_ | refine AWP.skip ?_ | refine AWP.block ?_ | refine AWP.exit ?_)); refine AWP.region hX kH_ok rfl ?_ ?_
    · exact inR_succ (by omega)
    refine ⟨i + 1, by omega, by omega, ⟨rfl, rfl, rfl, rfl, vSucc _, trivial⟩, ⟨rfl, boxEq ?_, boxEq ?_, trivial⟩, rfl, rfl⟩
    · exact mixX_set base 0x36 i (by omega)
    · exact mixX_set base 0x5c i (by omega)
  · simp at hb
    have : i = 64 := by omega
    subst this
    have e1 := mixX_all key 0x36 hkl
    have e2 := mixX_all key 0x5c hkl
    have e3 : (keyBlock key 0x36).length = 64 := by rw [← e1, mixX_len]; simp [hkl]
    have e4 : (keyBlock key 0x5c).length = 64 := by rw [← e2, mixX_len]; simp [hkl]
    rw [hbase] at e1 e2
    rw [e1, e2]
    (repeat (first | refine AWP.seq ?_ | refine AWP.skip ?_ | refine AWP.label ?_ | refine AWP.exit ?_ | refine AWP.block ?_ | refine AWP.region hX kH_ok rfl trivial ?_ | refine AWP.region hX kH_ok rfl id ?_ | refine AWP.region hX kH_ok rfl ⟨id, id⟩ ?_))
    refine AWP.frzB hX 5 ?_
    (repeat (first | refine AWP.seq ?_ | refine AWP.skip ?_ | refine AWP.block ?_ | refine AWP.exit ?_)); refine AWP.region hX kH_ok rfl ?_ ?_
    · show List.length (List.flatten [keyBlock key 0x36, l]) ≤ 2000000
      simp [e3]; omega
    refine AWP.frzB hX 6 ?_
    refine AWP.frzB hX 8 ?_
    (repeat (first | refine AWP.seq ?_ | refine AWP.skip ?_ | refine AWP.block ?_ | refine AWP.exit ?_)); refine AWP.draw dM hX kH_ok 4 (by kernel_rfl) rfl rfl ?_ ?_ ?_
    · show List.length (List.flatten [keyBlock key 0x5c, sha (List.flatten [keyBlock key 0x36, l])]) ≤ 2000000
      simp [e4, sha_length]
    · trivial
    refine AWP.ret ⟨.inr rfl, done1 rfl trivial rfl rfl ?_⟩
    show sha (List.flatten [keyBlock key 0x5c, sha (List.flatten [keyBlock key 0x36, l])]) = hmac key l
    simp [hmac]
end Go.Proofs.YtpepbnieocdpbaaDoor
