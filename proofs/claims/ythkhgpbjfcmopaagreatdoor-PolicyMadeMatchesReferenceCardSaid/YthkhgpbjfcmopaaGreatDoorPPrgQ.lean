/-
  Package policy: Parse: how it ends.
-/
import Derived.Test.YthkhgpbjfcmopaaGreatDoorPPrgP
namespace Go.Proofs.YthkhgpbjfcmopaaGreatDoor
open Go Go.RowKit
set_option linter.unusedSimpArgs false
set_option linter.unusedVariables false
set_option linter.unusedSimpArgs false
set_option linter.unusedVariables false
attribute [local go_sem] Oper.semAt_some
set_option maxRecDepth 100000
theorem mkF (fn : Fn) (first cap : Array Value) (w : World) : (Instr.makeFunc fn first cap).run Tryz.prog w = .ok (.func fn first cap) w := rfl
/-- the deferred call -/
def dfn (N : Nat) : Deferred := { target := .fn (.func 61) #[.pointer (some ⟨N, 0, none⟩), .pointer (some ⟨N + 1, 0, none⟩), .pointer (some ⟨N + 1 + 1, 0, none⟩)], args := #[] }
def dco (D : Nat) : Deferred := { target := .collected D, args := #[] }
/-- what Parse says -/
def PEnds (w : World) (O : Nat → Prop) (r : List Gt × Int × Int) (e : Ending) (w' : World) : Prop := ∃ v, e = .returned v ∧ Below w.heap.size w w' ∧ ResRel w' O w.heap.size none (.tup po (.tup i64 (.tup i64 .unit))) ((r.1, ()), r.2.1, r.2.2, ()) v
theorem tail_enter (N : Nat) (w : World) : (invoke (dfn N).target (dfn N).args).run Tryz.prog w = .ok (.enter 61 #[.pointer (some ⟨N, 0, none⟩), .pointer (some ⟨N + 1, 0, none⟩), .pointer (some ⟨N + 1 + 1, 0, none⟩)]) w := by
  have eg := Tryz.call61
  simp [invoke, dfn, go_sem, eg]
section
variable {w W : World} {O O' : Nat → Prop} {tmps : Array Value} {N D : Nat} {u : Value} {x y : Int} {t2 t3 t4 : TypeId}
theorem fin_ret {acc : List Gt} (hN : N = w.heap.size) (hO : ∀ g, O g → O' g) (hD : O' D) (hlt : N + 2 < D) (hbel : Below w.heap.size w W) (hd : W.heap[D]? = some (.deferred (some []))) (hu : u.oneCell' = true) (h2 : tmps.getD 2 undef = .pointer (some ⟨N, 0, none⟩)) (h3 : tmps.getD 3 undef = .pointer (some ⟨N + 1, 0, none⟩)) (h4 : tmps.getD 4 undef = .pointer (some ⟨N + 1 + 1, 0, none⟩))
    (c2 : W.heap[N]? = some (.cells #[u] t2 (0, 0))) (c3 : W.heap[N + 1]? = some (.cells #[.int .i64 x] t3 (0, 0))) (c4 : W.heap[N + 1 + 1]? = some (.cells #[.int .i64 y] t4 (0, 0))) (hr : RepD W O' (.slice gr) acc u) :
    LeavesInM Fence.wide 1 Tryz.prog Tryz.f30 tmps (PEnds w O (acc, x, y)) [dco D, dfn N] .returning W := by
  refine ⟨(by intro h; cases h), .inl ⟨D, _, rfl, run_takeDeferred hd, (by intro h; cases h), .inr ⟨fun _ => Nat.le_refl _, _, _, _, _, rfl, tail_enter N _, fun _ _ => trivial, ?_⟩⟩⟩
  have hk : Kept (fun g => g = D) W (W.putObj D (.deferred none)) := kept_putObj _ rfl
  have hlD := (Array.getElem?_eq_some_iff.1 hd).1
  refine (parse1_idle N (N + 1) (N + 1 + 1) _).mono ?_
  rintro e u' w3 ⟨⟨v, rfl⟩, rfl, hb3⟩
  have hl : ∀ g (o : Obj), W.heap[g]? = some o → g ≠ D → w3.heap[g]? = some o := fun g o hg hne => by
    have h1 := (Array.getElem?_eq_some_iff.1 hg).1
    exact (hb3.block g (Nat.lt_of_lt_of_le h1 hk.size)).trans ((hk.block g h1 hne).trans hg)
  refine ⟨_, parse_res hu h2 h3 h4 (hl _ _ c2 (by omega)) (hl _ _ c3 (by omega)) (hl _ _ c4 (by omega)), _, rfl, ?_, ?_⟩
  · refine ⟨hb3.os.trans (hk.os.trans hbel.os), hb3.tape.trans (hk.tape.trans hbel.tape), hb3.output.trans (hk.output.trans hbel.output), Nat.le_trans hbel.size (Nat.le_trans hk.size hb3.size), fun k hkl => ?_⟩
    have h1 : k < W.heap.size := Nat.lt_of_lt_of_le hkl hbel.size
    exact (hb3.block k (Nat.lt_of_lt_of_le h1 hk.size)).trans ((hk.block k h1 (by omega)).trans (hbel.block k hkl))
  · refine res_po (RepD.keep ⟨Nat.le_trans hk.size hb3.size, fun g hg hn => ?_, fun g _ hg => hO g hg⟩ hr)
    exact (hb3.block g (Nat.lt_of_lt_of_le hg hk.size)).trans (hk.block g hg fun e => hn (e ▸ hD))
theorem fin_pan {e : Int × Int} (hN : N = w.heap.size) (hlt : N + 2 < D) (hbel : Below w.heap.size w W) (hd : W.heap[D]? = some (.deferred (some []))) (hu : u.oneCell' = true) (h2 : tmps.getD 2 undef = .pointer (some ⟨N, 0, none⟩)) (h3 : tmps.getD 3 undef = .pointer (some ⟨N + 1, 0, none⟩)) (h4 : tmps.getD 4 undef = .pointer (some ⟨N + 1 + 1, 0, none⟩))
    (c2 : W.heap[N]? = some (.cells #[u] t2 (0, 0))) (c3 : W.heap[N + 1]? = some (.cells #[.int .i64 x] t3 (0, 0))) (c4 : W.heap[N + 1 + 1]? = some (.cells #[.int .i64 y] t4 (0, 0))) :
    LeavesInM Fence.wide 1 Tryz.prog Tryz.f30 tmps (PEnds w O ([], e.1, e.2)) [dco D, dfn N] (.panicking [{ v := pv e, recovered := false }]) W := by
  refine ⟨(by intro h; cases h), .inl ⟨D, _, rfl, run_takeDeferred hd, (by intro h; cases h), .inr ⟨fun _ => Nat.le_refl _, _, _, _, _, rfl, tail_enter N _, fun _ _ => trivial, ?_⟩⟩⟩
  have hk : Kept (fun g => g = D) W (W.putObj D (.deferred none)) := kept_putObj _ rfl
  have hl : ∀ g (o : Obj), W.heap[g]? = some o → g ≠ D → (W.putObj D (.deferred none)).heap[g]? = some o := fun g o hg hne => (hk.block g (Array.getElem?_eq_some_iff.1 hg).1 hne).trans hg
  refine (parse1_pan N (N + 1) (N + 1 + 1) e u x y t2 t3 t4 _ hu (hl _ _ c2 (by omega)) (hl _ _ c3 (by omega)) (hl _ _ c4 (by omega)) (by omega)).mono ?_
  rintro en u' w3 ⟨⟨v, rfl⟩, rfl, hk3, s2, s3, s4, d2, d3, d4⟩
  refine ⟨_, parse_res rfl h2 h3 h4 d2 d3 d4, _, rfl, ?_, res_po (acc := []) ⟨_, rfl, .inl ⟨rfl, none, 0, rfl, Nat.zero_le _⟩⟩⟩
  refine ⟨hk3.os.trans (hk.os.trans hbel.os), hk3.tape.trans (hk.tape.trans hbel.tape), hk3.output.trans (hk.output.trans hbel.output), Nat.le_trans hbel.size (Nat.le_trans hk.size hk3.size), fun k hkl => ?_⟩
  have h1 : k < W.heap.size := Nat.lt_of_lt_of_le hkl hbel.size
  exact (hk3.block k (Nat.lt_of_lt_of_le h1 hk.size) (by omega)).trans ((hk.block k h1 (by omega)).trans (hbel.block k hkl))
end
noncomputable def pTail : Code := match Tryz.f30.body.getD .skip with
  | .seq _ (.seq _ (.seq _ (.seq _ (.seq _ t)))) => t
  | c => c
def sPT (acc : List Gt) : AS := ⟨[(2, ⟨.hptr, (0, 0)⟩), (3, ⟨.optr i64, ⟨1, i64, .here⟩⟩), (4, ⟨.optr i64, ⟨2, i64, .here⟩⟩)], [(0, some (.hbox [⟨.slice gr, acc⟩])), (1, some (.box i64 (0 : Int))), (2, some (.box i64 (0 : Int)))], 5⟩
theorem ptail_awp {B : World} {O : Nat → Prop} {fix : Nat → Nat} {D : List Deferred} (hX : (XP O fix D none).Ok B) (i : Nat) (acc : List Gt) :
    AWP Tryz.prog B (XP O fix D none) 42 pTail ⟨[(2, ⟨.hptr, (0, 0)⟩), (3, ⟨.optr i64, ⟨1, i64, .here⟩⟩), (4, ⟨.optr i64, ⟨2, i64, .here⟩⟩)], sPE i acc, 5⟩ (fun e σ => e = .ret ∧ Fit σ (sPT acc)) := by
  unfold sPE sPT
  refine AWP.frzL hX 0 0 ?_
  refine AWP.seq ?_
  (repeat (first | refine AWP.seq ?_ | refine AWP.skip ?_ | refine AWP.label ?_ | refine AWP.exit ?_ | refine AWP.block ?_ | refine AWP.region hX kHS_ok rfl trivial ?_ | refine AWP.region hX kHS_ok rfl id ?_ | refine AWP.region hX kHS_ok rfl ⟨id, id⟩ ?_))
  exact AWP.ret ⟨rfl, ⟨rfl, rfl, rfl, trivial⟩, ⟨rfl, rfl, rfl, trivial⟩, rfl, rfl⟩
end Go.Proofs.YthkhgpbjfcmopaaGreatDoor
