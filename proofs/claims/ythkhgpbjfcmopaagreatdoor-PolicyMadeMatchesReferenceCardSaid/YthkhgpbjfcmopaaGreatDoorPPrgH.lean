/-
  Package policy: who, the lines of grants.
-/
import Derived.Test.YthkhgpbjfcmopaaGreatDoorPTab
import Derived.Test.YthkhgpbjfcmopaaGreatDoorAbsHand
namespace Go.Proofs.YthkhgpbjfcmopaaGreatDoor
open Go Go.RowKit
set_option linter.unusedSimpArgs false
set_option linter.unusedVariables false
set_option maxRecDepth 100000
theorem who_ok : CtrOk Tryz.prog pH 84 cWho := by
  refine ctr_of_awp (K := kHA) kHA_ok Tryz.func84 rfl rfl Tryz.call84 rfl (by decide) (by intro h; cases h) ?_
  rintro w0 X hX ⟨⟨(a : Int), (p : Int), (t : Int), (g : Int), (r : Int), _⟩, _⟩ hp
  obtain ⟨h1, h2⟩ : p ≤ 1000000 ∧ t ≤ 1000000 := hp
  change AWP _ _ _ _ _ ⟨[(0, ⟨gr, (a, p, t, g, r, ())⟩)], [], 0⟩ _
  have hd : ∀ x : Int, 0 ≤ x → x ≤ 1000000 → (dec x.toNat).length ≤ 7 := fun x h0 h => dec_length _ (by omega)
  (repeat (first | refine AWP.seq ?_ | refine AWP.skip ?_ | refine AWP.label ?_ | refine AWP.exit ?_ | refine AWP.block ?_ | refine AWP.region hX kHA_ok rfl trivial ?_ | refine AWP.region hX kHA_ok rfl id ?_ | refine AWP.region hX kHA_ok rfl ⟨id, id⟩ ?_))
  refine AWP.cond rfl (fun hb => ?_) (fun hb => ?_)
  · have hb : decide (p ≥ 0) = true := by assumption
    have hb := of_decide_eq_true hb
    have := hd p hb h1
    (repeat (first | refine AWP.seq ?_ | refine AWP.skip ?_ | refine AWP.block ?_ | refine AWP.exit ?_)); refine AWP.region hX kHA_ok rfl ?_ ?_
    · exact ⟨hb, h1, by show 7 + (dec p.toNat).length ≤ maxLen; unfold maxLen; omega⟩
    refine AWP.ret ⟨.inr rfl, done1 rfl trivial rfl rfl ?_⟩
    show sPerson ++ dec p.toNat = whoT (a, p, t, g, r, ())
    unfold whoT
    rw [if_pos (show 0 ≤ gP (a, p, t, g, r, ()) from hb)]
    rfl
  have hn : decide (p ≥ 0) = false := by assumption
  have hn := of_decide_eq_false hn
  (repeat (first | refine AWP.seq ?_ | refine AWP.skip ?_ | refine AWP.label ?_ | refine AWP.exit ?_ | refine AWP.block ?_ | refine AWP.region hX kHA_ok rfl trivial ?_ | refine AWP.region hX kHA_ok rfl id ?_ | refine AWP.region hX kHA_ok rfl ⟨id, id⟩ ?_))
  refine AWP.cond rfl (fun hb => ?_) (fun hb => ?_)
  · have hc : decide (t ≥ 0) = true := by assumption
    have hc := of_decide_eq_true hc
    have := hd t hc h2
    (repeat (first | refine AWP.seq ?_ | refine AWP.skip ?_ | refine AWP.block ?_ | refine AWP.exit ?_)); refine AWP.region hX kHA_ok rfl ?_ ?_
    · exact ⟨hc, h2, by show 5 + (dec t.toNat).length ≤ maxLen; unfold maxLen; omega⟩
    refine AWP.ret ⟨.inr rfl, done1 rfl trivial rfl rfl ?_⟩
    show sTeam ++ dec t.toNat = whoT (a, p, t, g, r, ())
    unfold whoT
    rw [if_neg (show ¬ 0 ≤ gP (a, p, t, g, r, ()) from hn), if_pos (show 0 ≤ gT (a, p, t, g, r, ()) from hc)]
    rfl
  · have hc : decide (t ≥ 0) = false := by assumption
    have hc := of_decide_eq_false hc
    (repeat (first | refine AWP.seq ?_ | refine AWP.skip ?_ | refine AWP.label ?_ | refine AWP.exit ?_ | refine AWP.block ?_ | refine AWP.region hX kHA_ok rfl trivial ?_ | refine AWP.region hX kHA_ok rfl id ?_ | refine AWP.region hX kHA_ok rfl ⟨id, id⟩ ?_))
    refine AWP.ret ⟨.inr rfl, done1 rfl trivial rfl rfl ?_⟩
    show sAll = whoT (a, p, t, g, r, ())
    unfold whoT
    rw [if_neg (show ¬ 0 ≤ gP (a, p, t, g, r, ()) from hn), if_neg (show ¬ 0 ≤ gT (a, p, t, g, r, ()) from hc)]
def kHB : Kn := { pK with C := [(85, cItoa), (84, cWho)] }
theorem kHB_ok : KnOk Tryz.prog pH kHB := hK_ok.with (.cons itoa_ok (.cons who_ok .nil))
/-- a line without its end -/
def bodyT (g : Gt) : List UInt8 := if gA g = 1 then sAsk ++ whoT g ++ sGrain ++ dec (gG g).toNat else if gA g = 2 then sBook ++ whoT g else sMove ++ whoT g ++ sRank ++ dec (gR g).toNat
def lnPre (g : Gt) : List Prop := [gP g ≤ 1000000, gT g ≤ 1000000, 0 ≤ gG g, gG g ≤ 1000000, 0 ≤ gR g, gR g ≤ 1000000]
def cLn1 : Ctr := { args := [gr], pre := fun x => lnPre x.1, res := .str, own := none, out := fun x => sAsk ++ whoT x.1 ++ sGrain ++ dec (gG x.1).toNat }
def cLn2 : Ctr := { args := [gr], pre := fun x => lnPre x.1, res := .str, own := none, out := fun x => sBook ++ whoT x.1 }
def cLn3 : Ctr := { args := [gr], pre := fun x => lnPre x.1, res := .str, own := none, out := fun x => sMove ++ whoT x.1 ++ sRank ++ dec (gR x.1).toNat }
theorem line1_ok : CtrOk Tryz.prog pH 83 cLn1 := by
  refine ctr_of_awp (K := kHB) kHB_ok Tryz.func83 rfl rfl Tryz.call83 rfl (by decide) (by intro h; cases h) ?_
  rintro w0 X hX ⟨⟨(a : Int), (p : Int), (t : Int), (g : Int), (r : Int), _⟩, _⟩ hp
  obtain ⟨h1, h2, h3, h4, h5, h6⟩ : p ≤ 1000000 ∧ t ≤ 1000000 ∧ 0 ≤ g ∧ g ≤ 1000000 ∧ 0 ≤ r ∧ r ≤ 1000000 := hp
  change AWP _ _ _ _ _ ⟨[(0, ⟨gr, (a, p, t, g, r, ())⟩)], [], 0⟩ _
  have hd := dec_length g.toNat (by omega)
  have hw := whoT_length (g := (a, p, t, g, r, ())) h1 h2
  (repeat (first | refine AWP.seq ?_ | refine AWP.skip ?_ | refine AWP.label ?_ | refine AWP.exit ?_ | refine AWP.block ?_ | refine AWP.region hX kHB_ok rfl trivial ?_ | refine AWP.region hX kHB_ok rfl id ?_ | refine AWP.region hX kHB_ok rfl ⟨id, id⟩ ?_))
  (repeat (first | refine AWP.seq ?_ | refine AWP.skip ?_ | refine AWP.block ?_ | refine AWP.exit ?_)); refine AWP.draw dM hX kHB_ok 8 (by kernel_rfl) rfl rfl ?_ ?_ ?_
  · refine ⟨h1, h2, ?_, ?_, h3, h4, ?_⟩
    · show 4 + (whoT (a, p, t, g, r, ())).length ≤ maxLen; unfold maxLen; omega
    · show (sAsk ++ whoT (a, p, t, g, r, ())).length + 7 ≤ maxLen; rw [List.length_append]; show 4 + _ + 7 ≤ _; unfold maxLen; omega
    · show (sAsk ++ whoT (a, p, t, g, r, ()) ++ sGrain).length + (dec g.toNat).length ≤ maxLen; rw [List.length_append, List.length_append]; show 4 + _ + 7 + _ ≤ _; unfold maxLen; omega
  · trivial
  exact AWP.ret ⟨.inr rfl, done1 rfl trivial rfl rfl rfl⟩
theorem line2_ok : CtrOk Tryz.prog pH 86 cLn2 := by
  refine ctr_of_awp (K := kHB) kHB_ok Tryz.func86 rfl rfl Tryz.call86 rfl (by decide) (by intro h; cases h) ?_
  rintro w0 X hX ⟨⟨(a : Int), (p : Int), (t : Int), (g : Int), (r : Int), _⟩, _⟩ hp
  obtain ⟨h1, h2, h3, h4, h5, h6⟩ : p ≤ 1000000 ∧ t ≤ 1000000 ∧ 0 ≤ g ∧ g ≤ 1000000 ∧ 0 ≤ r ∧ r ≤ 1000000 := hp
  change AWP _ _ _ _ _ ⟨[(0, ⟨gr, (a, p, t, g, r, ())⟩)], [], 0⟩ _
  have hw := whoT_length (g := (a, p, t, g, r, ())) h1 h2
  (repeat (first | refine AWP.seq ?_ | refine AWP.skip ?_ | refine AWP.label ?_ | refine AWP.exit ?_ | refine AWP.block ?_ | refine AWP.region hX kHB_ok rfl trivial ?_ | refine AWP.region hX kHB_ok rfl id ?_ | refine AWP.region hX kHB_ok rfl ⟨id, id⟩ ?_))
  (repeat (first | refine AWP.seq ?_ | refine AWP.skip ?_ | refine AWP.block ?_ | refine AWP.exit ?_)); refine AWP.region hX kHB_ok rfl ?_ ?_
  · refine ⟨h1, h2, ?_⟩
    show 5 + (whoT (a, p, t, g, r, ())).length ≤ maxLen; unfold maxLen; omega
  exact AWP.ret ⟨.inr rfl, done1 rfl trivial rfl rfl rfl⟩
theorem line3_ok : CtrOk Tryz.prog pH 87 cLn3 := by
  refine ctr_of_awp (K := kHB) kHB_ok Tryz.func87 rfl rfl Tryz.call87 rfl (by decide) (by intro h; cases h) ?_
  rintro w0 X hX ⟨⟨(a : Int), (p : Int), (t : Int), (g : Int), (r : Int), _⟩, _⟩ hp
  obtain ⟨h1, h2, h3, h4, h5, h6⟩ : p ≤ 1000000 ∧ t ≤ 1000000 ∧ 0 ≤ g ∧ g ≤ 1000000 ∧ 0 ≤ r ∧ r ≤ 1000000 := hp
  change AWP _ _ _ _ _ ⟨[(0, ⟨gr, (a, p, t, g, r, ())⟩)], [], 0⟩ _
  have hd := dec_length r.toNat (by omega)
  have hw := whoT_length (g := (a, p, t, g, r, ())) h1 h2
  (repeat (first | refine AWP.seq ?_ | refine AWP.skip ?_ | refine AWP.label ?_ | refine AWP.exit ?_ | refine AWP.block ?_ | refine AWP.region hX kHB_ok rfl trivial ?_ | refine AWP.region hX kHB_ok rfl id ?_ | refine AWP.region hX kHB_ok rfl ⟨id, id⟩ ?_))
  (repeat (first | refine AWP.seq ?_ | refine AWP.skip ?_ | refine AWP.block ?_ | refine AWP.exit ?_)); refine AWP.draw dM hX kHB_ok 8 (by kernel_rfl) rfl rfl ?_ ?_ ?_
  · refine ⟨h1, h2, ?_, ?_, h5, h6, ?_⟩
    · show 5 + (whoT (a, p, t, g, r, ())).length ≤ maxLen; unfold maxLen; omega
    · show (sMove ++ whoT (a, p, t, g, r, ())).length + 6 ≤ maxLen; rw [List.length_append]; show 5 + _ + 6 ≤ _; unfold maxLen; omega
    · show (sMove ++ whoT (a, p, t, g, r, ()) ++ sRank).length + (dec r.toNat).length ≤ maxLen; rw [List.length_append, List.length_append]; show 5 + _ + 6 + _ ≤ _; unfold maxLen; omega
  · trivial
  exact AWP.ret ⟨.inr rfl, done1 rfl trivial rfl rfl rfl⟩
/-- the functions by acts -/
def lineFn (a : Int) : Value := if a = 1 then .func (.func 83) #[] #[] else if a = 2 then .func (.func 86) #[] #[] else .func (.func 87) #[] #[]
def fnEs : List (Value × Value) := [(.int .i64 1, .func (.func 83) #[] #[]), (.int .i64 2, .func (.func 86) #[] #[]), (.int .i64 3, .func (.func 87) #[] #[])]
def cLinesM : Ctr := { args := [], pre := fun _ => [], res := .mapL, own := none, out := fun _ => fnEs }
theorem fn_look {a : Int} (h : 1 ≤ a ∧ a ≤ 3) : findP (.int .i64) (.int .i64 a) fnEs = some (some (lineFn a)) := by
  rcases (show a = 1 ∨ a = 2 ∨ a = 3 by omega) with rfl | rfl | rfl <;> rfl
theorem lines_ok : CtrOk Tryz.prog pH 47 cLinesM := by
  refine ctr_of_awp (K := pK) hK_ok Tryz.func47 rfl rfl Tryz.call47 rfl (by decide) (by intro h; cases h) ?_
  rintro w0 X hX _ hp
  change AWP _ _ _ _ _ ⟨[], [], 0⟩ _
  refine AWP.seq ?_
  (repeat (first | refine AWP.seq ?_ | refine AWP.skip ?_ | refine AWP.block ?_ | refine AWP.exit ?_)); refine AWP.region hX hK_ok rfl ?_ ?_
  · trivial
  (repeat (first | refine AWP.seq ?_ | refine AWP.skip ?_ | refine AWP.block ?_ | refine AWP.exit ?_)); refine AWP.list ?_
  refine AL.mapLit hX Tryz.underlying80 Tryz.underlying3 rfl fnEs (ins := [_, _, _]) rfl rfl rfl rfl (.cons rfl (fun _ => rfl) (fun _ => rfl) rfl rfl (.cons rfl (fun _ => rfl) (fun _ => rfl) rfl rfl (.cons rfl (fun _ => rfl) (fun _ => rfl) rfl rfl rfl))) ⟨rfl, rfl, rfl, trivial⟩ ?_
  refine AL.all hX hK_ok rfl trivial ?_
  (repeat (first | refine AWP.seq ?_ | refine AWP.skip ?_ | refine AWP.block ?_ | refine AWP.exit ?_)); exact AWP.ret ⟨.inr rfl, done1 rfl trivial rfl rfl rfl⟩
end Go.Proofs.YthkhgpbjfcmopaaGreatDoor
