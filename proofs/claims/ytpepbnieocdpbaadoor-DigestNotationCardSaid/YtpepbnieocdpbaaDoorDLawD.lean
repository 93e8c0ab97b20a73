/-
  The statements of chapter 03: the hexadecimal notation.
-/
import Derived.Test.YtpepbnieocdpbaaDoorDLawB
import Derived.Test.YtpepbnieocdpbaaDoorDNot
namespace Go.Proofs.YtpepbnieocdpbaaDoor
open Go Go.RowKit
set_option linter.unusedSimpArgs false
set_option linter.unusedVariables false
set_option maxRecDepth 100000
theorem vU8 {x y : UInt8} (h : x = y) : (⟨u8, x⟩ : V) = ⟨u8, y⟩ := by rw [h]
theorem vStr {x y : List UInt8} (h : x = y) : (⟨.str, x⟩ : V) = ⟨.str, y⟩ := by rw [h]
theorem vI64 {x y : Int} (h : x = y) : (⟨i64, x⟩ : V) = ⟨i64, y⟩ := by rw [h]
theorem law7_ok : CtrOk Tryd.prog dG 9 (lawCtr [dg, .str]) := by
  refine ctr_of_awp (K := kW) kW_ok Tryd.func9 rfl rfl Tryd.call9 rfl (by decide) (by intro h; cases h) ?_
  rintro w0 X hX ⟨(d : List UInt8), (s : List UInt8), _⟩ hp
  change AWP _ _ _ _ _ ⟨[(0, ⟨dg, d⟩), (1, ⟨.str, s⟩)], [], 0⟩ _
  refine AWP.alen 0 rfl fun hd => ?_
  have hd : d.length = 32 := hd
  have hl : (hex d).length = 64 := by rw [hex_len, hd]
  (repeat (first | refine AWP.seq ?_ | refine AWP.skip ?_ | refine AWP.block ?_ | refine AWP.exit ?_)); refine AWP.region hX kW_ok rfl ?_ ?_
  · trivial
  (repeat (first | refine AWP.seq ?_ | refine AWP.skip ?_ | refine AWP.block ?_ | refine AWP.exit ?_)); refine AWP.region hX kW_ok rfl ?_ ?_
  · trivial
  (repeat (first | refine AWP.seq ?_ | refine AWP.skip ?_ | refine AWP.block ?_ | refine AWP.exit ?_)); refine AWP.region hX kW_ok rfl ?_ ?_
  · trivial
  (repeat (first | refine AWP.seq ?_ | refine AWP.skip ?_ | refine AWP.block ?_ | refine AWP.exit ?_)); refine AWP.region hX kW_ok rfl ?_ ?_
  · trivial
  refine AWP.cond rfl (fun hb => ?_) (fun hb => ?_)
  · exfalso
    have hb : (!(((hex d).length : Int) == 64)) = true := hb
    rw [hl] at hb
    cases hb
  clear hb
  obtain ⟨h, hh⟩ : ∃ h : List UInt8, hex d = h := ⟨_, rfl⟩
  rw [hh] at hl
  refine AWP.fit (σ' := ⟨[(1, ⟨.str, s⟩), (2, ⟨.optr dg, ⟨0, dg, .here⟩⟩), (4, ⟨.bool, false⟩), (5, ⟨.bool, true⟩), (6, ⟨.str, h⟩)], [(0, some (.box dg d))], 1⟩) ⟨⟨rfl, rfl, rfl, rfl, vStr hh, trivial⟩, ⟨rfl, trivial⟩, rfl, rfl⟩ ?_
  (repeat (first | refine AWP.seq ?_ | refine AWP.skip ?_ | refine AWP.label ?_ | refine AWP.exit ?_ | refine AWP.block ?_ | refine AWP.region hX kW_ok rfl trivial ?_ | refine AWP.region hX kW_ok rfl id ?_ | refine AWP.region hX kW_ok rfl ⟨id, id⟩ ?_))
  refine AWP.loop (ι := Nat) (fun k => ⟨[(1, ⟨.str, s⟩), (2, ⟨.optr dg, ⟨0, dg, .here⟩⟩), (4, ⟨.bool, false⟩), (5, ⟨.bool, true⟩), (6, ⟨.str, h⟩), (7, ⟨.obuf u8, (1 : Nat)⟩), (8, ⟨i64, (k : Int)⟩)], [(0, some (.box dg d)), (1, some (.buf 5 u8 ((h.take k).map up)))], 2⟩) (fun k => k ≤ 64) (fun k => 64 - k) 0 (by omega) ⟨⟨rfl, rfl, rfl, rfl, rfl, rfl, rfl, trivial⟩, ⟨rfl, rfl, trivial⟩, rfl, rfl⟩ ?_
  intro k hk
  have hm : ((h.take k).map up).length = k := by rw [List.length_map, List.length_take]; omega
  (repeat (first | refine AWP.seq ?_ | refine AWP.skip ?_ | refine AWP.block ?_ | refine AWP.exit ?_)); refine AWP.region hX kW_ok rfl ?_ ?_
  · trivial
  refine AWP.cond rfl (fun hb => ?_) (fun hb => ?_)
  · have hb : decide ((k : Int) < 64) = true := hb
    have hb := of_decide_eq_true hb
    (repeat (first | refine AWP.seq ?_ | refine AWP.skip ?_ | refine AWP.block ?_ | refine AWP.exit ?_)); refine AWP.region hX kW_ok rfl ?_ ?_
    · exact ⟨by omega, by show (k : Int) < (h.length : Nat); omega⟩
    obtain ⟨c, hc⟩ : ∃ c : UInt8, h.getD (k : Int).toNat 0 = c := ⟨_, rfl⟩
    have hnext : (h.take (k + 1)).map up = (h.take k).map up ++ [up c] := by
      rw [List.take_succ_eq_append_getElem (by omega : k < h.length), List.map_append]
      rw [← hc, Int.toNat_natCast, List.getD_eq_getElem?_getD, List.getElem?_eq_getElem (by omega : k < h.length)]
      rfl
    refine AWP.fit (σ' := ⟨[(1, ⟨.str, s⟩), (2, ⟨.optr dg, ⟨0, dg, .here⟩⟩), (4, ⟨.bool, false⟩), (5, ⟨.bool, true⟩), (6, ⟨.str, h⟩), (7, ⟨.obuf u8, (1 : Nat)⟩), (8, ⟨i64, (k : Int)⟩), (9, ⟨u8, c⟩)], [(0, some (.box dg d)), (1, some (.buf 5 u8 ((h.take k).map up)))], 2⟩) ⟨⟨rfl, rfl, rfl, rfl, rfl, rfl, rfl, vU8 hc, trivial⟩, ⟨rfl, rfl, trivial⟩, rfl, rfl⟩ ?_
    generalize hy : (h.take k).map up = y at *
    (repeat (first | refine AWP.seq ?_ | refine AWP.skip ?_ | refine AWP.block ?_ | refine AWP.exit ?_)); refine AWP.region hX kW_ok rfl ?_ ?_
    · exact ⟨fun h => h, fun h => h⟩
    refine AWP.cond rfl (fun hb => ?_) (fun hb => ?_)
    · have ht := test2.1 hb
      have hu : c - UInt8.ofNat (Int.toNat 32) = up c := by
        unfold up
        rw [if_pos (by have h1 : (97 : Int) ≤ (c.toNat : Nat) := ht.1; have h2 : ((c.toNat : Nat) : Int) ≤ 102 := ht.2; omega)]
        rfl
      (repeat (first | refine AWP.seq ?_ | refine AWP.skip ?_ | refine AWP.block ?_ | refine AWP.exit ?_)); refine AWP.region hX kW_ok rfl ?_ ?_
      · trivial
      refine AWP.fit (σ' := ⟨[(1, ⟨.str, s⟩), (2, ⟨.optr dg, ⟨0, dg, .here⟩⟩), (4, ⟨.bool, false⟩), (5, ⟨.bool, true⟩), (6, ⟨.str, h⟩), (7, ⟨.obuf u8, (1 : Nat)⟩), (8, ⟨i64, (k : Int)⟩), (9, ⟨u8, up c⟩)], [(0, some (.box dg d)), (1, some (.buf 5 u8 y))], 2⟩) ⟨⟨rfl, rfl, rfl, rfl, rfl, rfl, rfl, vU8 hu, trivial⟩, ⟨rfl, rfl, trivial⟩, rfl, rfl⟩ ?_
      (repeat (first | refine AWP.seq ?_ | refine AWP.skip ?_ | refine AWP.block ?_ | refine AWP.exit ?_)); refine AWP.region hX kW_ok rfl ?_ ?_
      · show y.length + 1 ≤ 1000000000
        omega
      (repeat (first | refine AWP.seq ?_ | refine AWP.skip ?_ | refine AWP.block ?_ | refine AWP.exit ?_)); refine AWP.region hX kW_ok rfl ?_ ?_
      · exact inR_succ (by omega)
      refine ⟨k + 1, by omega, by omega, ⟨rfl, rfl, rfl, rfl, rfl, rfl, vSucc _, trivial⟩, ⟨rfl, bufEq hnext.symm, trivial⟩, rfl, rfl⟩
    · have hu : c = up c := by
        unfold up
        rw [if_neg]
        intro hn
        rw [← Bool.not_eq_true] at hb
        exact hb (test2.2 ⟨by show (97 : Int) ≤ (c.toNat : Nat); omega, by show ((c.toNat : Nat) : Int) ≤ 102; omega⟩)
      refine AWP.skip ?_
      refine AWP.fit (σ' := ⟨[(1, ⟨.str, s⟩), (2, ⟨.optr dg, ⟨0, dg, .here⟩⟩), (4, ⟨.bool, false⟩), (5, ⟨.bool, true⟩), (6, ⟨.str, h⟩), (7, ⟨.obuf u8, (1 : Nat)⟩), (8, ⟨i64, (k : Int)⟩), (9, ⟨u8, up c⟩)], [(0, some (.box dg d)), (1, some (.buf 5 u8 y))], 2⟩) ⟨⟨rfl, rfl, rfl, rfl, rfl, rfl, rfl, vU8 hu, trivial⟩, ⟨rfl, rfl, trivial⟩, rfl, rfl⟩ ?_
      (repeat (first | refine AWP.seq ?_ | refine AWP.skip ?_ | refine AWP.block ?_ | refine AWP.exit ?_)); refine AWP.region hX kW_ok rfl ?_ ?_
      · show y.length + 1 ≤ 1000000000
        omega
      (repeat (first | refine AWP.seq ?_ | refine AWP.skip ?_ | refine AWP.block ?_ | refine AWP.exit ?_)); refine AWP.region hX kW_ok rfl ?_ ?_
      · exact inR_succ (by omega)
      refine ⟨k + 1, by omega, by omega, ⟨rfl, rfl, rfl, rfl, rfl, rfl, vSucc _, trivial⟩, ⟨rfl, bufEq hnext.symm, trivial⟩, rfl, rfl⟩
  · have hb : decide ((k : Int) < 64) = false := hb
    have hb := of_decide_eq_false hb
    have : k = 64 := by omega
    subst this
    have hall : (h.take 64).map up = h.map up := by rw [List.take_of_length_le (by omega)]
    (repeat (first | refine AWP.seq ?_ | refine AWP.skip ?_ | refine AWP.block ?_ | refine AWP.exit ?_)); refine AWP.region hX kW_ok rfl ?_ ?_
    · trivial
    (repeat (first | refine AWP.seq ?_ | refine AWP.skip ?_ | refine AWP.block ?_ | refine AWP.exit ?_)); refine AWP.region hX kW_ok rfl ?_ ?_
    · trivial
    (repeat (first | refine AWP.seq ?_ | refine AWP.skip ?_ | refine AWP.block ?_ | refine AWP.exit ?_)); refine AWP.region hX kW_ok rfl ?_ ?_
    · show h.length + 1 ≤ maxLen
      unfold maxLen
      omega
    (repeat (first | refine AWP.seq ?_ | refine AWP.skip ?_ | refine AWP.block ?_ | refine AWP.exit ?_)); refine AWP.region hX kW_ok rfl ?_ ?_
    · exact ⟨by show (0 : Int) ≤ 63; omega, by show (63 : Int) ≤ (h.length : Nat); omega⟩
    have e1 : unhexR h = (d, 0, ()) := by rw [← hh]; exact unhex_hex hd
    have e2 : unhexR ((h.take 64).map up) = (d, 0, ()) := by rw [hall, ← hh]; exact unhex_upper hd
    have e3 : unhexR (h ++ [48]) = (List.replicate 32 0, 3, ()) := unhex_len (by rw [List.length_append, hl]; decide)
    have e4 : unhexR (h.take 63) = (List.replicate 32 0, 3, ()) := unhex_len (by rw [List.length_take, hl]; decide)
    refine AWP.fit (σ' := ⟨[(1, ⟨.str, s⟩), (2, ⟨.optr dg, ⟨0, dg, .here⟩⟩), (4, ⟨.bool, false⟩), (5, ⟨.bool, true⟩), (10, ⟨.optr dg, ⟨2, dg, .here⟩⟩), (11, ⟨i64, (0 : Int)⟩), (12, ⟨.optr dg, ⟨3, dg, .here⟩⟩), (13, ⟨i64, (0 : Int)⟩), (15, ⟨i64, (3 : Int)⟩), (17, ⟨i64, (3 : Int)⟩)], [(0, some (.box dg d)), (2, some (.box dg d)), (3, some (.box dg d))], 6⟩) ⟨⟨rfl, rfl, rfl, rfl, rfl, vI64 (congrArg (fun z => z.2.1) e1), rfl, vI64 (congrArg (fun z => z.2.1) e2), vI64 (congrArg (fun z => z.2.1) e3), vI64 (congrArg (fun z => z.2.1) e4), trivial⟩, ⟨rfl, boxEq (congrArg (fun z => z.1) e1), boxEq (congrArg (fun z => z.1) e2), trivial⟩, rfl, rfl⟩ ?_
    clear e1 e2 e3 e4 hall hm hk hb
    (repeat (first | refine AWP.seq ?_ | refine AWP.skip ?_ | refine AWP.block ?_ | refine AWP.exit ?_)); refine AWP.region hX kW_ok rfl ?_ ?_
    · repeat' (first | exact trivial | assumption | (refine ⟨?_, ?_⟩) | (intro _) | exact Nat.le_of_ble_eq_true rfl)
    refine AWP.cond rfl (fun hb => ?_) (fun hb => ?_)
    · rw [eqb_self] at hb
      cases hb
    clear hb
    (repeat (first | refine AWP.seq ?_ | refine AWP.skip ?_ | refine AWP.block ?_ | refine AWP.exit ?_)); refine AWP.region hX kW_ok rfl ?_ ?_
    · exact ⟨by show (0 : Int) ≤ min (s.length : Int) 100; omega, by show min (s.length : Int) 100 ≤ (s.length : Int); omega⟩
    obtain ⟨z, hz⟩ : ∃ z : List UInt8, s.take (min (s.length : Int) 100).toNat = z := ⟨_, rfl⟩
    (repeat (first | refine AWP.seq ?_ | refine AWP.skip ?_ | refine AWP.block ?_ | refine AWP.exit ?_)); refine AWP.region hX kW_ok rfl ?_ ?_
    · trivial
    refine AWP.fit (σ' := ⟨[(4, ⟨.bool, false⟩), (5, ⟨.bool, true⟩), (18, ⟨.str, z⟩), (19, ⟨.optr dg, ⟨6, dg, .here⟩⟩), (20, ⟨i64, (unhexR z).2.1⟩)], [(6, some (.box dg (unhexR z).1))], 7⟩) ⟨⟨rfl, rfl, vStr hz, rfl, vI64 (congrArg (fun z => (unhexR z).2.1) hz), trivial⟩, ⟨boxEq (congrArg (fun z => (unhexR z).1) hz), trivial⟩, rfl, rfl⟩ ?_
    clear hz
    (repeat (first | refine AWP.seq ?_ | refine AWP.skip ?_ | refine AWP.block ?_ | refine AWP.exit ?_)); refine AWP.region hX kW_ok rfl ?_ ?_
    · trivial
    refine AWP.cond rfl (fun hb => ?_) (fun hb => ?_)
    · (repeat (first | refine AWP.seq ?_ | refine AWP.skip ?_ | refine AWP.block ?_ | refine AWP.exit ?_)); refine AWP.region hX kW_ok rfl ?_ ?_
      · repeat' (first | exact trivial | assumption | (refine ⟨?_, ?_⟩) | (intro _) | exact Nat.le_of_ble_eq_true rfl)
      refine AWP.ret ⟨.inr rfl, done1 rfl trivial rfl rfl ?_⟩
      have hn : (unhexR z).2.1 ≠ 0 := by simpa using hb
      rw [unhex_not hn]
      exact bif_true (bif_true rfl (eqb_self _)) rfl
    have he : (unhexR z).2.1 = 0 := by simpa using hb
    obtain ⟨hz, hy, hdig⟩ := unhex_yes he
    have hx : (hex (unhexR z).1).length = 64 := by rw [hex_len, hy]
    clear hb
    (repeat (first | refine AWP.seq ?_ | refine AWP.skip ?_ | refine AWP.block ?_ | refine AWP.exit ?_)); refine AWP.region hX kW_ok rfl ?_ ?_
    · trivial
    obtain ⟨q, hq⟩ : ∃ q : List UInt8, hex (unhexR z).1 = q := ⟨_, rfl⟩
    rw [hq] at hx hdig
    refine AWP.fit (σ' := ⟨[(4, ⟨.bool, false⟩), (5, ⟨.bool, true⟩), (18, ⟨.str, z⟩), (21, ⟨.str, q⟩)], [], 7⟩) ⟨⟨rfl, rfl, rfl, vStr hq, trivial⟩, trivial, rfl, rfl⟩ ?_
    clear hq
    (repeat (first | refine AWP.seq ?_ | refine AWP.skip ?_ | refine AWP.block ?_ | refine AWP.exit ?_)); refine AWP.region hX kW_ok rfl ?_ ?_
    · repeat' (first | exact trivial | assumption | (refine ⟨?_, ?_⟩) | (intro _) | exact Nat.le_of_ble_eq_true rfl)
    refine AWP.cond rfl (fun hb => ?_) (fun hb => ?_)
    · exfalso
      have hb : (bif !((z.length : Int) == 64) then true else !((q.length : Int) == 64)) = true := hb
      rw [hz, hx] at hb
      cases hb
    clear hb
    (repeat (first | refine AWP.seq ?_ | refine AWP.skip ?_ | refine AWP.label ?_ | refine AWP.exit ?_ | refine AWP.block ?_ | refine AWP.region hX kW_ok rfl trivial ?_ | refine AWP.region hX kW_ok rfl id ?_ | refine AWP.region hX kW_ok rfl ⟨id, id⟩ ?_))
    refine AWP.loop (ι := Nat) (fun k => ⟨[(4, ⟨.bool, false⟩), (5, ⟨.bool, true⟩), (18, ⟨.str, z⟩), (21, ⟨.str, q⟩), (22, ⟨i64, (k : Int)⟩)], [], 7⟩) (fun k => k ≤ 64) (fun k => 64 - k) 0 (by omega) ⟨⟨rfl, rfl, rfl, rfl, rfl, trivial⟩, trivial, rfl, rfl⟩ ?_
    intro k hk
    (repeat (first | refine AWP.seq ?_ | refine AWP.skip ?_ | refine AWP.block ?_ | refine AWP.exit ?_)); refine AWP.region hX kW_ok rfl ?_ ?_
    · trivial
    refine AWP.cond rfl (fun hb => ?_) (fun hb => ?_)
    · have hb : decide ((k : Int) < 64) = true := hb
      have hb := of_decide_eq_true hb
      have k0 : (0 : Int) ≤ (k : Int) := by omega
      have k1 : (k : Int) < (z.length : Nat) := by omega
      have k2 : (k : Int) < (q.length : Nat) := by omega
      (repeat (first | refine AWP.seq ?_ | refine AWP.skip ?_ | refine AWP.block ?_ | refine AWP.exit ?_)); refine AWP.draw dM hX kW_ok 16 (by kernel_rfl) rfl rfl ?_ ?_ ?_
      · repeat' (first | exact trivial | assumption | exact k0 | exact k1 | exact k2 | (refine ⟨?_, ?_⟩) | (intro _) | exact Nat.le_of_ble_eq_true rfl)
      · trivial
      have hbf : (bif decide (dig (z.getD (k : Int).toNat 0) < 0) then true else dig (z.getD (k : Int).toNat 0) != dig (q.getD (k : Int).toNat 0)) = false := by
        rw [Int.toNat_natCast]
        obtain ⟨g1, g2⟩ := hdig k (by omega)
        rw [← g2, decide_eq_false (by omega)]
        simp
      refine AWP.cond rfl (fun hb => ?_) (fun hb => ?_)
      · exfalso
        have hb : (bif decide (dig (z.getD (k : Int).toNat 0) < 0) then true else dig (z.getD (k : Int).toNat 0) != dig (q.getD (k : Int).toNat 0)) = true := hb
        rw [hbf] at hb
        cases hb
      (repeat (first | refine AWP.seq ?_ | refine AWP.skip ?_ | refine AWP.label ?_ | refine AWP.exit ?_ | refine AWP.block ?_ | refine AWP.region hX kW_ok rfl trivial ?_ | refine AWP.region hX kW_ok rfl id ?_ | refine AWP.region hX kW_ok rfl ⟨id, id⟩ ?_))
      (repeat (first | refine AWP.seq ?_ | refine AWP.skip ?_ | refine AWP.block ?_ | refine AWP.exit ?_)); refine AWP.region hX kW_ok rfl ?_ ?_
      · exact inR_succ (by omega)
      exact ⟨k + 1, by omega, by omega, ⟨rfl, rfl, rfl, rfl, vSucc _, trivial⟩, trivial, rfl, rfl⟩
    · (repeat (first | refine AWP.seq ?_ | refine AWP.skip ?_ | refine AWP.label ?_ | refine AWP.exit ?_ | refine AWP.block ?_ | refine AWP.region hX kW_ok rfl trivial ?_ | refine AWP.region hX kW_ok rfl id ?_ | refine AWP.region hX kW_ok rfl ⟨id, id⟩ ?_))
      exact AWP.ret ⟨.inr rfl, done1 rfl trivial rfl rfl rfl⟩
end Go.Proofs.YtpepbnieocdpbaaDoor
