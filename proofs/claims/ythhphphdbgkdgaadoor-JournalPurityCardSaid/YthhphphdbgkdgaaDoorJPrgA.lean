/-
  Package journal, first part: join, size, check, payloads.
-/
import Derived.Test.YthhphphdbgkdgaaDoorJRefA
import Derived.Test.YthhphphdbgkdgaaDoorAbsMore
namespace Go.Proofs.YthhphphdbgkdgaaDoor
open Go Go.RowKit
set_option linter.unusedSimpArgs false
set_option linter.unusedVariables false
set_option maxRecDepth 100000
/-- the concatenation, as memory of the caller's own -/
def cJoin : Ctr := { args := [.slice bs], pre := fun x => [(List.flatten x.1).length ≤ 100000000], res := bs, own := some 5, out := fun x => List.flatten x.1 }
/-- the same, as memory that stays -/
def cJoinV : Ctr := { args := [.slice bs], pre := fun x => [(List.flatten x.1).length ≤ 100000000], res := bs, own := none, out := fun x => List.flatten x.1 }
theorem flat_take (l : List (List UInt8)) (k : Nat) (h : k < l.length) : (l.take (k + 1)).flatten = (l.take k).flatten ++ l.getD k [] := by
  rw [List.take_succ_eq_append_getElem h, List.flatten_append, List.getD_eq_getElem?_getD, List.getElem?_eq_getElem h]
  simp
theorem flat_le (l : List (List UInt8)) (k : Nat) : (l.take k).flatten.length ≤ l.flatten.length := by
  have : l.flatten = (l.take k).flatten ++ (l.drop k).flatten := by rw [← List.flatten_append, List.take_append_drop]
  rw [this, List.length_append]
  omega
theorem join_ok : CtrOk Tryd.prog dG 15 cJoin := by
  refine ctr_of_awp (K := dK) dK_ok Tryd.func15 rfl rfl Tryd.call15 rfl (by decide) (by intro h; cases h) ?_
  rintro w0 X hX ⟨(l : List (List UInt8)), _⟩ hp
  change AWP _ _ _ _ _ ⟨[(0, ⟨.slice bs, l⟩)], [], 0⟩ _
  have hp : l.flatten.length ≤ 100000000 := hp
  refine AWP.len 0 rfl fun hl => ?_
  unfold maxLen at hl
  (repeat (first | refine AWP.seq ?_ | refine AWP.skip ?_ | refine AWP.label ?_ | refine AWP.exit ?_ | refine AWP.block ?_ | refine AWP.region hX dK_ok rfl trivial ?_ | refine AWP.region hX dK_ok rfl id ?_ | refine AWP.region hX dK_ok rfl ⟨id, id⟩ ?_))
  refine AWP.loop (ι := Nat) (fun k => ⟨[(0, ⟨.slice bs, l⟩), (3, ⟨i64, (((l.take k).flatten.length : Nat) : Int)⟩), (9, ⟨.slice bs, l⟩), (10, ⟨i64, ((l.length : Nat) : Int)⟩), (11, ⟨i64, (k : Int)⟩)], [], 0⟩) (fun k => k ≤ l.length) (fun k => l.length - k) 0 (by omega) ⟨⟨rfl, rfl, rfl, rfl, rfl, trivial⟩, trivial, rfl, rfl⟩ ?_
  intro k hk
  (repeat (first | refine AWP.seq ?_ | refine AWP.skip ?_ | refine AWP.block ?_ | refine AWP.exit ?_)); refine AWP.region hX dK_ok rfl ?_ ?_
  · trivial
  refine AWP.seq ?_
  refine AWP.cond rfl (fun hb => ?_) (fun hb => ?_)
  · have hb : decide ((k : Int) < (l.length : Nat)) = true := hb
    have hb := of_decide_eq_true hb
    have hlt : k < l.length := by omega
    have hf := flat_take l k hlt
    have hle := flat_le l (k + 1)
    rw [hf, List.length_append] at hle
    (repeat (first | refine AWP.seq ?_ | refine AWP.skip ?_ | refine AWP.block ?_ | refine AWP.exit ?_)); refine AWP.region hX dK_ok rfl ?_ ?_
    · exact ⟨by omega, by show (k : Int) < (l.length : Nat); omega⟩
    refine AWP.fit (σ' := ⟨[(0, ⟨.slice bs, l⟩), (3, ⟨i64, (((l.take k).flatten.length : Nat) : Int)⟩), (5, ⟨bs, l.getD k []⟩), (9, ⟨.slice bs, l⟩), (10, ⟨i64, ((l.length : Nat) : Int)⟩), (11, ⟨i64, (k : Int)⟩)], [], 0⟩) ⟨⟨rfl, rfl, vBs (by rw [← Int.toNat_natCast k]; rfl), rfl, rfl, rfl, trivial⟩, trivial, rfl, rfl⟩ ?_
    (repeat (first | refine AWP.seq ?_ | refine AWP.skip ?_ | refine AWP.block ?_ | refine AWP.exit ?_)); refine AWP.region hX dK_ok rfl ?_ ?_
    · exact inR_small (by show _ ≤ (((l.take k).flatten.length : Nat) : Int) + ((l.getD k []).length : Nat); omega) (by show (((l.take k).flatten.length : Nat) : Int) + ((l.getD k []).length : Nat) ≤ _; omega)
    (repeat (first | refine AWP.seq ?_ | refine AWP.skip ?_ | refine AWP.block ?_ | refine AWP.exit ?_)); refine AWP.region hX dK_ok rfl ?_ ?_
    · exact inR_succ (by omega)
    exact ⟨k + 1, by omega, by omega, ⟨rfl, vI64 (by rw [hf, List.length_append]; show (((l.take k).flatten.length : Nat) : Int) + ((l.getD k []).length : Nat) = _; omega), rfl, rfl, vSucc _, trivial⟩, trivial, rfl, rfl⟩
  have hb : decide ((k : Int) < (l.length : Nat)) = false := hb
  have hb := of_decide_eq_false hb
  have : k = l.length := by omega
  subst this
  rw [List.take_length]
  (repeat (first | refine AWP.seq ?_ | refine AWP.skip ?_ | refine AWP.block ?_ | refine AWP.exit ?_)); refine AWP.region hX dK_ok rfl ?_ ?_
  · exact ⟨Int.le_refl _, by show (0 : Int) ≤ ((l.flatten.length : Nat) : Int); omega, by show ((l.flatten.length : Nat) : Int) ≤ 1000000000; omega⟩
  (repeat (first | refine AWP.seq ?_ | refine AWP.skip ?_ | refine AWP.label ?_ | refine AWP.exit ?_ | refine AWP.block ?_ | refine AWP.region hX dK_ok rfl trivial ?_ | refine AWP.region hX dK_ok rfl id ?_ | refine AWP.region hX dK_ok rfl ⟨id, id⟩ ?_))
  refine AWP.loop (ι := Nat) (fun k => ⟨[(0, ⟨.slice bs, l⟩), (6, ⟨.obuf u8, (0 : Nat)⟩), (22, ⟨.slice bs, l⟩), (23, ⟨i64, ((l.length : Nat) : Int)⟩), (24, ⟨i64, (k : Int)⟩)], [(0, some (.buf 5 u8 (l.take k).flatten))], 1⟩) (fun k => k ≤ l.length) (fun k => l.length - k) 0 (by omega) ⟨⟨rfl, rfl, rfl, rfl, rfl, trivial⟩, ⟨rfl, trivial⟩, rfl, rfl⟩ ?_
  intro k hk
  (repeat (first | refine AWP.seq ?_ | refine AWP.skip ?_ | refine AWP.block ?_ | refine AWP.exit ?_)); refine AWP.region hX dK_ok rfl ?_ ?_
  · trivial
  refine AWP.seq ?_
  refine AWP.cond rfl (fun hb => ?_) (fun hb => ?_)
  · have hb : decide ((k : Int) < (l.length : Nat)) = true := hb
    have hb := of_decide_eq_true hb
    have hlt : k < l.length := by omega
    have hf := flat_take l k hlt
    have hle := flat_le l (k + 1)
    rw [hf, List.length_append] at hle
    (repeat (first | refine AWP.seq ?_ | refine AWP.skip ?_ | refine AWP.block ?_ | refine AWP.exit ?_)); refine AWP.region hX dK_ok rfl ?_ ?_
    · exact ⟨by omega, by show (k : Int) < (l.length : Nat); omega⟩
    refine AWP.fit (σ' := ⟨[(0, ⟨.slice bs, l⟩), (6, ⟨.obuf u8, (0 : Nat)⟩), (8, ⟨bs, l.getD k []⟩), (22, ⟨.slice bs, l⟩), (23, ⟨i64, ((l.length : Nat) : Int)⟩), (24, ⟨i64, (k : Int)⟩)], [(0, some (.buf 5 u8 (l.take k).flatten))], 1⟩) ⟨⟨rfl, rfl, vBs (by rw [← Int.toNat_natCast k]; rfl), rfl, rfl, rfl, trivial⟩, ⟨rfl, trivial⟩, rfl, rfl⟩ ?_
    (repeat (first | refine AWP.seq ?_ | refine AWP.skip ?_ | refine AWP.block ?_ | refine AWP.exit ?_)); refine AWP.region hX dK_ok rfl ?_ ?_
    · show (l.take k).flatten.length + (l.getD k []).length ≤ 1000000000
      omega
    (repeat (first | refine AWP.seq ?_ | refine AWP.skip ?_ | refine AWP.block ?_ | refine AWP.exit ?_)); refine AWP.region hX dK_ok rfl ?_ ?_
    · exact inR_succ (by omega)
    exact ⟨k + 1, by omega, by omega, ⟨rfl, rfl, rfl, rfl, vSucc _, trivial⟩, ⟨bufEq hf.symm, trivial⟩, rfl, rfl⟩
  · have hb : decide ((k : Int) < (l.length : Nat)) = false := hb
    have hb := of_decide_eq_false hb
    have : k = l.length := by omega
    subst this
    rw [List.take_length]
    (repeat (first | refine AWP.seq ?_ | refine AWP.skip ?_ | refine AWP.label ?_ | refine AWP.exit ?_ | refine AWP.block ?_ | refine AWP.region hX dK_ok rfl trivial ?_ | refine AWP.region hX dK_ok rfl id ?_ | refine AWP.region hX dK_ok rfl ⟨id, id⟩ ?_))
    exact AWP.ret ⟨.inr rfl, doneO rfl rfl rfl⟩
theorem joinV_ok : CtrOk Tryd.prog dG 15 cJoinV := by
  refine ctr_of_awp (K := dK) dK_ok Tryd.func15 rfl rfl Tryd.call15 rfl (by decide) (by intro h; cases h) ?_
  rintro w0 X hX ⟨(l : List (List UInt8)), _⟩ hp
  change AWP _ _ _ _ _ ⟨[(0, ⟨.slice bs, l⟩)], [], 0⟩ _
  have hp : l.flatten.length ≤ 100000000 := hp
  refine AWP.len 0 rfl fun hl => ?_
  unfold maxLen at hl
  (repeat (first | refine AWP.seq ?_ | refine AWP.skip ?_ | refine AWP.label ?_ | refine AWP.exit ?_ | refine AWP.block ?_ | refine AWP.region hX dK_ok rfl trivial ?_ | refine AWP.region hX dK_ok rfl id ?_ | refine AWP.region hX dK_ok rfl ⟨id, id⟩ ?_))
  refine AWP.loop (ι := Nat) (fun k => ⟨[(0, ⟨.slice bs, l⟩), (3, ⟨i64, (((l.take k).flatten.length : Nat) : Int)⟩), (9, ⟨.slice bs, l⟩), (10, ⟨i64, ((l.length : Nat) : Int)⟩), (11, ⟨i64, (k : Int)⟩)], [], 0⟩) (fun k => k ≤ l.length) (fun k => l.length - k) 0 (by omega) ⟨⟨rfl, rfl, rfl, rfl, rfl, trivial⟩, trivial, rfl, rfl⟩ ?_
  intro k hk
  (repeat (first | refine AWP.seq ?_ | refine AWP.skip ?_ | refine AWP.block ?_ | refine AWP.exit ?_)); refine AWP.region hX dK_ok rfl ?_ ?_
  · trivial
  refine AWP.seq ?_
  refine AWP.cond rfl (fun hb => ?_) (fun hb => ?_)
  · have hb : decide ((k : Int) < (l.length : Nat)) = true := hb
    have hb := of_decide_eq_true hb
    have hlt : k < l.length := by omega
    have hf := flat_take l k hlt
    have hle := flat_le l (k + 1)
    rw [hf, List.length_append] at hle
    (repeat (first | refine AWP.seq ?_ | refine AWP.skip ?_ | refine AWP.block ?_ | refine AWP.exit ?_)); refine AWP.region hX dK_ok rfl ?_ ?_
    · exact ⟨by omega, by show (k : Int) < (l.length : Nat); omega⟩
    refine AWP.fit (σ' := ⟨[(0, ⟨.slice bs, l⟩), (3, ⟨i64, (((l.take k).flatten.length : Nat) : Int)⟩), (5, ⟨bs, l.getD k []⟩), (9, ⟨.slice bs, l⟩), (10, ⟨i64, ((l.length : Nat) : Int)⟩), (11, ⟨i64, (k : Int)⟩)], [], 0⟩) ⟨⟨rfl, rfl, vBs (by rw [← Int.toNat_natCast k]; rfl), rfl, rfl, rfl, trivial⟩, trivial, rfl, rfl⟩ ?_
    (repeat (first | refine AWP.seq ?_ | refine AWP.skip ?_ | refine AWP.block ?_ | refine AWP.exit ?_)); refine AWP.region hX dK_ok rfl ?_ ?_
    · exact inR_small (by show _ ≤ (((l.take k).flatten.length : Nat) : Int) + ((l.getD k []).length : Nat); omega) (by show (((l.take k).flatten.length : Nat) : Int) + ((l.getD k []).length : Nat) ≤ _; omega)
    (repeat (first | refine AWP.seq ?_ | refine AWP.skip ?_ | refine AWP.block ?_ | refine AWP.exit ?_)); refine AWP.region hX dK_ok rfl ?_ ?_
    · exact inR_succ (by omega)
    exact ⟨k + 1, by omega, by omega, ⟨rfl, vI64 (by rw [hf, List.length_append]; show (((l.take k).flatten.length : Nat) : Int) + ((l.getD k []).length : Nat) = _; omega), rfl, rfl, vSucc _, trivial⟩, trivial, rfl, rfl⟩
  have hb : decide ((k : Int) < (l.length : Nat)) = false := hb
  have hb := of_decide_eq_false hb
  have : k = l.length := by omega
  subst this
  rw [List.take_length]
  (repeat (first | refine AWP.seq ?_ | refine AWP.skip ?_ | refine AWP.block ?_ | refine AWP.exit ?_)); refine AWP.region hX dK_ok rfl ?_ ?_
  · exact ⟨Int.le_refl _, by show (0 : Int) ≤ ((l.flatten.length : Nat) : Int); omega, by show ((l.flatten.length : Nat) : Int) ≤ 1000000000; omega⟩
  (repeat (first | refine AWP.seq ?_ | refine AWP.skip ?_ | refine AWP.label ?_ | refine AWP.exit ?_ | refine AWP.block ?_ | refine AWP.region hX dK_ok rfl trivial ?_ | refine AWP.region hX dK_ok rfl id ?_ | refine AWP.region hX dK_ok rfl ⟨id, id⟩ ?_))
  refine AWP.loop (ι := Nat) (fun k => ⟨[(0, ⟨.slice bs, l⟩), (6, ⟨.obuf u8, (0 : Nat)⟩), (22, ⟨.slice bs, l⟩), (23, ⟨i64, ((l.length : Nat) : Int)⟩), (24, ⟨i64, (k : Int)⟩)], [(0, some (.buf 5 u8 (l.take k).flatten))], 1⟩) (fun k => k ≤ l.length) (fun k => l.length - k) 0 (by omega) ⟨⟨rfl, rfl, rfl, rfl, rfl, trivial⟩, ⟨rfl, trivial⟩, rfl, rfl⟩ ?_
  intro k hk
  (repeat (first | refine AWP.seq ?_ | refine AWP.skip ?_ | refine AWP.block ?_ | refine AWP.exit ?_)); refine AWP.region hX dK_ok rfl ?_ ?_
  · trivial
  refine AWP.seq ?_
  refine AWP.cond rfl (fun hb => ?_) (fun hb => ?_)
  · have hb : decide ((k : Int) < (l.length : Nat)) = true := hb
    have hb := of_decide_eq_true hb
    have hlt : k < l.length := by omega
    have hf := flat_take l k hlt
    have hle := flat_le l (k + 1)
    rw [hf, List.length_append] at hle
    (repeat (first | refine AWP.seq ?_ | refine AWP.skip ?_ | refine AWP.block ?_ | refine AWP.exit ?_)); refine AWP.region hX dK_ok rfl ?_ ?_
    · exact ⟨by omega, by show (k : Int) < (l.length : Nat); omega⟩
    refine AWP.fit (σ' := ⟨[(0, ⟨.slice bs, l⟩), (6, ⟨.obuf u8, (0 : Nat)⟩), (8, ⟨bs, l.getD k []⟩), (22, ⟨.slice bs, l⟩), (23, ⟨i64, ((l.length : Nat) : Int)⟩), (24, ⟨i64, (k : Int)⟩)], [(0, some (.buf 5 u8 (l.take k).flatten))], 1⟩) ⟨⟨rfl, rfl, vBs (by rw [← Int.toNat_natCast k]; rfl), rfl, rfl, rfl, trivial⟩, ⟨rfl, trivial⟩, rfl, rfl⟩ ?_
    (repeat (first | refine AWP.seq ?_ | refine AWP.skip ?_ | refine AWP.block ?_ | refine AWP.exit ?_)); refine AWP.region hX dK_ok rfl ?_ ?_
    · show (l.take k).flatten.length + (l.getD k []).length ≤ 1000000000
      omega
    (repeat (first | refine AWP.seq ?_ | refine AWP.skip ?_ | refine AWP.block ?_ | refine AWP.exit ?_)); refine AWP.region hX dK_ok rfl ?_ ?_
    · exact inR_succ (by omega)
    exact ⟨k + 1, by omega, by omega, ⟨rfl, rfl, rfl, rfl, vSucc _, trivial⟩, ⟨bufEq hf.symm, trivial⟩, rfl, rfl⟩
  · have hb : decide ((k : Int) < (l.length : Nat)) = false := hb
    have hb := of_decide_eq_false hb
    have : k = l.length := by omega
    subst this
    rw [List.take_length]
    (repeat (first | refine AWP.seq ?_ | refine AWP.skip ?_ | refine AWP.label ?_ | refine AWP.exit ?_ | refine AWP.block ?_ | refine AWP.region hX dK_ok rfl trivial ?_ | refine AWP.region hX dK_ok rfl id ?_ | refine AWP.region hX dK_ok rfl ⟨id, id⟩ ?_))
    exact AWP.ret ⟨.inr rfl, done1 rfl trivial rfl rfl rfl⟩
def szr (b : List UInt8) : Nat → Nat
  | 0 => 0
  | k + 1 => szr b k * 256 + (b.getD (3 - k) 0).toNat
theorem szr_lt (b : List UInt8) (k : Nat) : szr b k < 256 ^ k := by
  induction k with
  | zero => exact Nat.one_pos
  | succ k ih =>
    have := (b.getD (3 - k) 0).toNat_lt
    show szr b k * 256 + (b.getD (3 - k) 0).toNat < 256 ^ k * 256
    omega
theorem szr_size (b : List UInt8) : szr b 4 = size4 b := by
  show (((0 * 256 + (b.getD 3 0).toNat) * 256 + (b.getD 2 0).toNat) * 256 + (b.getD 1 0).toNat) * 256 + (b.getD 0 0).toNat = _
  unfold size4
  omega
def cSize : Ctr := { args := [bs], pre := fun x => [4 ≤ List.length x.1], res := i64, own := none, out := fun x => (size4 x.1 : Int) }
theorem size_ok : CtrOk Tryd.prog dG 17 cSize := by
  refine ctr_of_awp (K := dK) dK_ok Tryd.func17 rfl rfl Tryd.call17 rfl (by decide) (by intro h; cases h) ?_
  rintro w0 X hX ⟨(b : List UInt8), _⟩ hp
  change AWP _ _ _ _ _ ⟨[(0, ⟨bs, b⟩)], [], 0⟩ _
  have hp : 4 ≤ b.length := hp
  (repeat (first | refine AWP.seq ?_ | refine AWP.skip ?_ | refine AWP.label ?_ | refine AWP.exit ?_ | refine AWP.block ?_ | refine AWP.region hX dK_ok rfl trivial ?_ | refine AWP.region hX dK_ok rfl id ?_ | refine AWP.region hX dK_ok rfl ⟨id, id⟩ ?_))
  refine AWP.loop (ι := Nat) (fun k => ⟨[(0, ⟨bs, b⟩), (3, ⟨i64, ((szr b k : Nat) : Int)⟩), (4, ⟨i64, 3 - (k : Int)⟩)], [], 0⟩) (fun k => k ≤ 4) (fun k => 4 - k) 0 (by omega) ⟨⟨rfl, rfl, vI64 (by show (3 : Int) = 3 - ((0 : Nat) : Int); omega), trivial⟩, trivial, rfl, rfl⟩ ?_
  intro k hk
  have hs := szr_lt b k
  (repeat (first | refine AWP.seq ?_ | refine AWP.skip ?_ | refine AWP.block ?_ | refine AWP.exit ?_)); refine AWP.region hX dK_ok rfl ?_ ?_
  · trivial
  refine AWP.cond rfl (fun hb => ?_) (fun hb => ?_)
  · have hb : decide ((0 : Int) ≤ 3 - (k : Int)) = true := hb
    have hb := of_decide_eq_true hb
    have hk3 : k ≤ 3 := by omega
    have hpow : 256 ^ k ≤ 256 ^ 3 := Nat.pow_le_pow_right (by omega) hk3
    have hpow : 256 ^ k ≤ 16777216 := hpow
    have hg := (b.getD (3 - k) 0).toNat_lt
    have hto : (3 - (k : Int)).toNat = 3 - k := by omega
    have e1 : ((szr b k : Nat) : Int) * 2 ^ (8 : Int).toNat = ((szr b k * 256 : Nat) : Int) := by
      show ((szr b k : Nat) : Int) * 256 = _
      omega
    (repeat (first | refine AWP.seq ?_ | refine AWP.skip ?_ | refine AWP.block ?_ | refine AWP.exit ?_)); refine AWP.region hX dK_ok rfl ?_ ?_
    · show allP [(0 : Int) ≤ 8, (8 : Int) ≤ 63, inR .i64 (((szr b k : Nat) : Int) * 2 ^ (8 : Int).toNat), 0 ≤ 3 - (k : Int), 3 - (k : Int) < ((b.length : Nat) : Int), 0 ≤ ((szr b k : Nat) : Int) * 2 ^ (8 : Int).toNat, 0 ≤ (((b.getD (3 - (k : Int)).toNat 0).toNat : Nat) : Int), (((szr b k : Nat) : Int) * 2 ^ (8 : Int).toNat).toNat < 2 ^ 63, (((b.getD (3 - (k : Int)).toNat 0).toNat : Nat) : Int).toNat < 2 ^ 63]
      rw [e1, hto]
      exact ⟨by omega, by omega, inR_small (by omega) (by omega), by omega, by omega, by omega, by omega, by omega, (by omega : (((b.getD (3 - k) 0).toNat : Nat) : Int).toNat < 2 ^ 63)⟩
    (repeat (first | refine AWP.seq ?_ | refine AWP.skip ?_ | refine AWP.block ?_ | refine AWP.exit ?_)); refine AWP.region hX dK_ok rfl ?_ ?_
    · exact inR_small (by show _ ≤ 3 - (k : Int) - 1; omega) (by show 3 - (k : Int) - 1 ≤ _; omega)
    refine ⟨k + 1, by omega, by omega, ⟨rfl, vI64 ?_, vI64 (by show 3 - (k : Int) - 1 = 3 - ((k + 1 : Nat) : Int); omega), trivial⟩, trivial, rfl, rfl⟩
    show (((((szr b k : Nat) : Int) * 2 ^ (8 : Int).toNat).toNat ||| (((b.getD (3 - (k : Int)).toNat 0).toNat : Nat) : Int).toNat : Nat) : Int) = ((szr b k * 256 + (b.getD (3 - k) 0).toNat : Nat) : Int)
    rw [e1, hto, Int.toNat_natCast, Int.toNat_natCast]
    congr 1
    have := Nat.shiftLeft_add_eq_or_of_lt (show (b.getD (3 - k) 0).toNat < 2 ^ 8 by omega) (szr b k)
    rw [Nat.shiftLeft_eq] at this
    exact this.symm
  · have hb : decide ((0 : Int) ≤ 3 - (k : Int)) = false := hb
    have hb := of_decide_eq_false hb
    have : k = 4 := by omega
    subst this
    (repeat (first | refine AWP.seq ?_ | refine AWP.skip ?_ | refine AWP.label ?_ | refine AWP.exit ?_ | refine AWP.block ?_ | refine AWP.region hX dK_ok rfl trivial ?_ | refine AWP.region hX dK_ok rfl id ?_ | refine AWP.region hX dK_ok rfl ⟨id, id⟩ ?_))
    refine AWP.ret ⟨.inr rfl, done1 rfl trivial rfl rfl ?_⟩
    show ((szr b 4 : Nat) : Int) = ((size4 b : Nat) : Int)
    rw [szr_size]
def cCheck : Ctr := { args := [bs], pre := fun x => [List.length x.1 ≤ 2000000], res := bs, own := none, out := fun x => (sha x.1).take 8 }
def kP1 : Kn := { dK with C := [(19, cSum)] }
theorem kP1_ok : KnOk Tryd.prog dG kP1 := dK_ok.with (.cons sum_ok .nil)
theorem check_ok : CtrOk Tryd.prog dG 16 cCheck := by
  refine ctr_of_awp (K := kP1) kP1_ok Tryd.func16 rfl rfl Tryd.call16 rfl (by decide) (by intro h; cases h) ?_
  rintro w0 X hX ⟨(b : List UInt8), _⟩ hp
  change AWP _ _ _ _ _ ⟨[(0, ⟨bs, b⟩)], [], 0⟩ _
  have hp : b.length ≤ 2000000 := hp
  (repeat (first | refine AWP.seq ?_ | refine AWP.skip ?_ | refine AWP.block ?_ | refine AWP.exit ?_)); refine AWP.region hX kP1_ok rfl ?_ ?_
  · trivial
  (repeat (first | refine AWP.seq ?_ | refine AWP.skip ?_ | refine AWP.block ?_ | refine AWP.exit ?_)); refine AWP.region hX kP1_ok rfl ?_ ?_
  · exact hp
  refine AWP.frzB hX 3 ?_
  (repeat (first | refine AWP.seq ?_ | refine AWP.skip ?_ | refine AWP.block ?_ | refine AWP.exit ?_)); refine AWP.region hX kP1_ok rfl ?_ ?_
  · refine ⟨by show (0 : Int) ≤ 8; omega, ?_⟩
    show (8 : Int) ≤ ((sha b).length : Nat)
    rw [sha_length]
    decide
  exact AWP.ret ⟨.inr rfl, done1 rfl trivial rfl rfl rfl⟩
def kP2 : Kn := { dK with C := [(17, cSize), (16, cCheck), (18, cEq)] }
theorem kP2_ok : KnOk Tryd.prog dG kP2 := dK_ok.with (.cons size_ok <| .cons check_ok <| .cons equal_ok .nil)
theorem cut_eq (b : List UInt8) (a i j : Nat) : (b.take (a + j)).drop (a + i) = ((b.drop a).drop i).take (j - i) := by
  rw [List.drop_take, List.drop_drop]
  congr 1
  omega
def cPays : Ctr := { args := [bs], pre := fun x => [List.length x.1 ≤ 1100000], res := .tup (.slice bs) (.tup i64 .unit), own := none, out := fun x => ((recs x.1).1, ((recs x.1).2 : Int), ()) }
theorem pays_ok : CtrOk Tryd.prog dG 14 cPays := by
  refine ctr_of_awp (K := kP2) kP2_ok Tryd.func14 rfl rfl Tryd.call14 rfl (by decide) (by intro h; cases h) ?_
  rintro w0 X hX ⟨(b : List UInt8), _⟩ hp
  change AWP _ _ _ _ _ ⟨[(0, ⟨bs, b⟩)], [], 0⟩ _
  have hp : b.length ≤ 1100000 := hp
  refine AWP.seq ?_
  refine AWP.region hX kP2_ok rfl trivial ?_
  refine AWP.scope ?_
  (repeat (first | refine AWP.seq ?_ | refine AWP.skip ?_ | refine AWP.label ?_ | refine AWP.exit ?_ | refine AWP.block ?_ | refine AWP.region hX kP2_ok rfl trivial ?_ | refine AWP.region hX kP2_ok rfl id ?_ | refine AWP.region hX kP2_ok rfl ⟨id, id⟩ ?_))
  refine AWP.nilBuf hX 4 27 bs rfl rfl rfl ?_
  (repeat (first | refine AWP.seq ?_ | refine AWP.skip ?_ | refine AWP.label ?_ | refine AWP.exit ?_ | refine AWP.block ?_ | refine AWP.region hX kP2_ok rfl trivial ?_ | refine AWP.region hX kP2_ok rfl id ?_ | refine AWP.region hX kP2_ok rfl ⟨id, id⟩ ?_))
  refine AWP.loop (ι := Nat × List (List UInt8)) (fun i => ⟨[(0, ⟨bs, b⟩), (4, ⟨.obuf bs, (0 : Nat)⟩), (5, ⟨i64, (i.1 : Int)⟩)], [(0, some (.buf 27 bs i.2))], 1⟩)
    (fun i => i.1 ≤ b.length ∧ i.2.length ≤ i.1 ∧ recs b = (i.2 ++ (recs (b.drop i.1)).1, i.1 + (recs (b.drop i.1)).2)) (fun i => b.length - i.1) (0, []) ⟨Nat.zero_le _, Nat.le_refl _, by simp⟩ ⟨⟨rfl, rfl, rfl, trivial⟩, ⟨rfl, trivial⟩, rfl, rfl⟩ ?_
  rintro ⟨at_, out⟩ ⟨hat, hol, hrec⟩
  simp only at hat hol hrec
  have hcl : (b.drop at_).length = b.length - at_ := List.length_drop
  have hdone : first (b.drop at_) = 0 → recs b = (out, at_) := fun hz => by rw [hrec, recs_none hz, List.append_nil, Nat.add_zero]
  have d0 : inR .i64 (((b.length : Nat) : Int) - (at_ : Int)) := inR_small (by omega) (by omega)
  (repeat (first | refine AWP.seq ?_ | refine AWP.skip ?_ | refine AWP.block ?_ | refine AWP.exit ?_)); refine AWP.region hX kP2_ok rfl ?_ ?_
  · exact d0
  refine AWP.cond rfl (fun hb => ?_) (fun hb => ?_)
  · have hb : decide (((b.length : Nat) : Int) - (at_ : Int) ≥ 12) = true := hb
    have hb := of_decide_eq_true hb
    have h12 : 12 ≤ (b.drop at_).length := by omega
    (repeat (first | refine AWP.seq ?_ | refine AWP.skip ?_ | refine AWP.block ?_ | refine AWP.exit ?_)); refine AWP.region hX kP2_ok rfl ?_ ?_
    · refine ⟨by omega, by show (at_ : Int) ≤ ((b.length : Nat) : Int); omega, ?_⟩
      show 4 ≤ (b.drop (at_ : Int).toNat).length
      rw [Int.toNat_natCast]; omega
    obtain ⟨n, hn⟩ : ∃ n, size4 (b.drop at_) = n := ⟨_, rfl⟩
    have hn32 : n < 2 ^ 32 := by rw [← hn]; exact size4_lt _
    refine AWP.fit (σ' := ⟨[(0, ⟨bs, b⟩), (4, ⟨.obuf bs, (0 : Nat)⟩), (5, ⟨i64, (at_ : Int)⟩), (6, ⟨i64, (n : Int)⟩)], [(0, some (.buf 27 bs out))], 1⟩) ⟨⟨rfl, rfl, rfl, vI64 (by rw [← hn]; exact congrArg (fun m : Nat => (size4 (b.drop m) : Int)) (Int.toNat_natCast at_)), trivial⟩, ⟨rfl, trivial⟩, rfl, rfl⟩ ?_
    have d1 : inR .i64 ((at_ : Int) + 12) := inR_small (by omega) (by omega)
    have d2 : inR .i64 (((b.length : Nat) : Int) - ((at_ : Int) + 12)) := inR_small (by omega) (by omega)
    (repeat (first | refine AWP.seq ?_ | refine AWP.skip ?_ | refine AWP.block ?_ | refine AWP.exit ?_)); refine AWP.region hX kP2_ok rfl ?_ ?_
    · exact d1
    (repeat (first | refine AWP.seq ?_ | refine AWP.skip ?_ | refine AWP.block ?_ | refine AWP.exit ?_)); refine AWP.region hX kP2_ok rfl ?_ ?_
    · exact d2
    refine AWP.cond rfl (fun hb => ?_) (fun hb => ?_)
    · have hb : decide ((n : Int) > ((b.length : Nat) : Int) - ((at_ : Int) + 12)) = true := hb
      have hb := of_decide_eq_true hb
      have hz : first (b.drop at_) = 0 := by
        unfold first
        rw [if_neg (by omega), hn, if_pos (by omega)]
      (repeat (first | refine AWP.seq ?_ | refine AWP.skip ?_ | refine AWP.block ?_ | refine AWP.exit ?_)); refine AWP.region hX kP2_ok rfl ?_ ?_
      · trivial
      refine AWP.ret ⟨.inr rfl, done2 (by decide) rfl rfl trivial ?_⟩
      show (out, (at_ : Int), ()) = ((recs b).1, ((recs b).2 : Int), ())
      rw [hdone hz]
    have hb : decide ((n : Int) > ((b.length : Nat) : Int) - ((at_ : Int) + 12)) = false := hb
    have hb2 := of_decide_eq_false hb
    have d3 : inR .i64 ((at_ : Int) + 4) := inR_small (by omega) (by omega)
    have d4 : inR .i64 ((at_ : Int) + 12 + (n : Int)) := inR_small (by omega) (by omega)
    have d5 : (0 : Int) ≤ (at_ : Int) + 4 := by omega
    have d6 : (at_ : Int) + 4 ≤ (at_ : Int) + 12 := by omega
    have d7 : (at_ : Int) + 12 ≤ ((b.length : Nat) : Int) := by omega
    have d8 : (0 : Int) ≤ (at_ : Int) + 12 := by omega
    have d9 : (at_ : Int) + 12 ≤ (at_ : Int) + 12 + (n : Int) := by omega
    have d10 : (at_ : Int) + 12 + (n : Int) ≤ ((b.length : Nat) : Int) := by omega
    have c1 : List.drop ((at_ : Int) + 4).toNat (List.take ((at_ : Int) + 12).toNat b) = ((b.drop at_).drop 4).take 8 := by
      rw [show ((at_ : Int) + 4).toNat = at_ + 4 by omega, show ((at_ : Int) + 12).toNat = at_ + 12 by omega]
      exact cut_eq b at_ 4 12
    have c2 : List.drop ((at_ : Int) + 12).toNat (List.take ((at_ : Int) + 12 + (n : Int)).toNat b) = ((b.drop at_).drop 12).take n := by
      rw [show ((at_ : Int) + 12).toNat = at_ + 12 by omega, show ((at_ : Int) + 12 + (n : Int)).toNat = at_ + (12 + n) by omega, cut_eq b at_ 12 (12 + n)]
      congr 1
      omega
    have d11 : (List.drop ((at_ : Int) + 12).toNat (List.take ((at_ : Int) + 12 + (n : Int)).toNat b)).length ≤ 2000000 := by
      rw [c2, List.length_take, List.length_drop]; omega
    have hfirst : first (b.drop at_) = if ((b.drop at_).drop 4).take 8 = (sha (((b.drop at_).drop 12).take n)).take 8 then 12 + n else 0 := by
      unfold first
      rw [if_neg (by omega), hn, if_neg (by omega)]
    (repeat (first | refine AWP.seq ?_ | refine AWP.skip ?_ | refine AWP.block ?_ | refine AWP.exit ?_)); refine AWP.draw dM hX kP2_ok 15 (by kernel_rfl) rfl rfl ?_ ?_ ?_
    · repeat' (first | exact trivial | assumption | exact d3 | exact d4 | exact d5 | exact d6 | exact d7 | exact d8 | exact d9 | exact d10 | exact d11 | (refine ⟨?_, ?_⟩) | (intro _) | exact Nat.le_of_ble_eq_true rfl | exact Int.natCast_nonneg _ | (simp_all [allP]; done))
    · trivial
    refine AWP.cond rfl (fun hb => ?_) (fun hb => ?_)
    · have hb3 : (!decide (List.drop ((at_ : Int) + 4).toNat (List.take ((at_ : Int) + 12).toNat b) = (sha (List.drop ((at_ : Int) + 12).toNat (List.take ((at_ : Int) + 12 + (n : Int)).toNat b))).take 8)) = true := hb
      rw [c1, c2] at hb3
      have hz : first (b.drop at_) = 0 := by
        rw [hfirst, if_neg]
        simpa using hb3
      (repeat (first | refine AWP.seq ?_ | refine AWP.skip ?_ | refine AWP.block ?_ | refine AWP.exit ?_)); refine AWP.region hX kP2_ok rfl ?_ ?_
      · trivial
      refine AWP.ret ⟨.inr rfl, done2 (by decide) rfl rfl trivial ?_⟩
      show (out, (at_ : Int), ()) = ((recs b).1, ((recs b).2 : Int), ())
      rw [hdone hz]
    have hb3 : (!decide (List.drop ((at_ : Int) + 4).toNat (List.take ((at_ : Int) + 12).toNat b) = (sha (List.drop ((at_ : Int) + 12).toNat (List.take ((at_ : Int) + 12 + (n : Int)).toNat b))).take 8)) = false := hb
    rw [c1, c2] at hb3
    have hz : first (b.drop at_) = 12 + n := by
      rw [hfirst, if_pos]
      simpa using hb3
    have hs : recs (b.drop at_) = (((b.drop at_).drop 12).take n :: (recs (b.drop (at_ + (12 + n)))).1, 12 + n + (recs (b.drop (at_ + (12 + n)))).2) := by
      have := recs_some (b := b.drop at_) (by omega)
      rw [hz, show (b.drop at_).drop (12 + n) = b.drop (at_ + (12 + n)) from List.drop_drop .., show 12 + n - 12 = n by omega] at this
      exact this
    rw [hs] at hrec
    clear hdone hs hfirst
    (repeat (first | refine AWP.seq ?_ | refine AWP.skip ?_ | refine AWP.block ?_ | refine AWP.exit ?_)); refine AWP.region hX kP2_ok rfl ?_ ?_
    · exact ⟨d4, d8, d9, d10, by show out.length + 1 ≤ 1000000000; omega⟩
    (repeat (first | refine AWP.seq ?_ | refine AWP.skip ?_ | refine AWP.block ?_ | refine AWP.exit ?_)); refine AWP.region hX kP2_ok rfl ?_ ?_
    · exact d4
    refine ⟨(at_ + (12 + n), out ++ [((b.drop at_).drop 12).take n]), ⟨by show at_ + (12 + n) ≤ b.length; omega, by rw [List.length_append, List.length_singleton]; show out.length + 1 ≤ at_ + (12 + n); omega, ?_⟩, by show b.length - (at_ + (12 + n)) < b.length - at_; omega, ⟨rfl, rfl, vI64 (by show (at_ : Int) + 12 + (n : Int) = ((at_ + (12 + n) : Nat) : Int); omega), trivial⟩, ⟨bufEq (by show out ++ [_] = out ++ [_]; rw [c2]), trivial⟩, rfl, rfl⟩
    rw [hrec]
    simp only [List.append_assoc, List.singleton_append, Nat.add_assoc]
  · have hb : decide (((b.length : Nat) : Int) - (at_ : Int) ≥ 12) = false := hb
    have hb := of_decide_eq_false hb
    have hz : first (b.drop at_) = 0 := by
      unfold first
      rw [if_pos (by omega)]
    (repeat (first | refine AWP.seq ?_ | refine AWP.skip ?_ | refine AWP.block ?_ | refine AWP.exit ?_)); refine AWP.region hX kP2_ok rfl ?_ ?_
    · trivial
    refine AWP.ret ⟨.inr rfl, done2 (by decide) rfl rfl trivial ?_⟩
    show (out, (at_ : Int), ()) = ((recs b).1, ((recs b).2 : Int), ())
    rw [hdone hz]
end Go.Proofs.YthhphphdbgkdgaaDoor
