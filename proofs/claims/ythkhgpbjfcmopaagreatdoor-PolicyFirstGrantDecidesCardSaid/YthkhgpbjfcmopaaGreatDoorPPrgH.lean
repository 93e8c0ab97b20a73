/-
  Package policy: who, the lines of grants.
  Package policy: Format.
-/
import Derived.Test.YthkhgpbjfcmopaaGreatDoorPTab
import Derived.Test.YthkhgpbjfcmopaaGreatDoorAbsHand
import Derived.Test.YthkhgpbjfcmopaaGreatDoorPPrgA
import Derived.Test.YthkhgpbjfcmopaaGreatDoorAbsMore
namespace Go.Proofs.YthkhgpbjfcmopaaGreatDoor
open Go Go.RowKit
set_option linter.unusedSimpArgs false
set_option linter.unusedVariables false
set_option maxRecDepth 100000
theorem who_ok : CtrOk Tryz.prog pH 84 cWho := by
  refine ctr_of_awp (K := kHA) kHA_ok Tryz.func84 rfl rfl Tryz.call84 rfl (by decide) (by intro h; cases h) ?_
  rintro w0 X hX ⟨⟨(a : Int), (p : Int), (t : Int), (g : Int), (r : Int), _⟩, _⟩ hp
  obtain ⟨h1, h2⟩ : p ≤ 1000000 ∧ t ≤ 1000000 := hp
  change AWP _ _ _ _ _ ⟨[(0, ⟨gr, (a, p, t, g, r, ())⟩)], [], 0⟩ _
  have hd : ∀ x : Int, 0 ≤ x → x ≤ 1000000 → (dec x.toNat).length ≤ 7 := fun x h0 h => dec_length _ (by omega)
  (repeat (first | refine AWP.seq ?_ | refine AWP.skip ?_ | refine AWP.label ?_ | refine AWP.exit ?_ | refine AWP.block ?_ | refine AWP.region hX kHA_ok rfl trivial ?_ | refine AWP.region hX kHA_ok rfl id ?_ | refine AWP.region hX kHA_ok rfl ⟨id, id⟩ ?_))
  refine AWP.cond rfl (fun hb => ?_) (fun hb => ?_)
  · have hb : decide (p ≥ 0) = true := by assumption
    have hb := of_decide_eq_true hb
    have := hd p hb h1
    (repeat (first | refine AWP.seq ?_ | refine AWP.skip ?_ | refine AWP.block ?_ | refine AWP.exit ?_)); refine AWP.region hX kHA_ok rfl ?_ ?_
    · exact ⟨hb, h1, by show 7 + (dec p.toNat).length ≤ maxLen; unfold maxLen; omega⟩
    refine AWP.ret ⟨.inr rfl, done1 rfl trivial rfl rfl ?_⟩
    show sPerson ++ dec p.toNat = whoT (a, p, t, g, r, ())
    unfold whoT
    rw [if_pos (show 0 ≤ gP (a, p, t, g, r, ()) from hb)]
    rfl
  have hn : decide (p ≥ 0) = false := by assumption
  have hn := of_decide_eq_false hn
  (repeat (first | refine AWP.seq ?_ | refine AWP.skip ?_ | refine AWP.label ?_ | refine AWP.exit ?_ | refine AWP.block ?_ | refine AWP.region hX kHA_ok rfl trivial ?_ | refine AWP.region hX kHA_ok rfl id ?_ | refine AWP.region hX kHA_ok rfl ⟨id, id⟩ ?_))
  refine AWP.cond rfl (fun hb => ?_) (fun hb => ?_)
  · have hc : decide (t ≥ 0) = true := by assumption
    have hc := of_decide_eq_true hc
    have := hd t hc h2
    (repeat (first | refine AWP.seq ?_ | refine AWP.skip ?_ | refine AWP.block ?_ | refine AWP.exit ?_)); refine AWP.region hX kHA_ok rfl ?_ ?_
    · exact ⟨hc, h2, by show 5 + (dec t.toNat).length ≤ maxLen; unfold maxLen; omega⟩
    refine AWP.ret ⟨.inr rfl, done1 rfl trivial rfl rfl ?_⟩
    show sTeam ++ dec t.toNat = whoT (a, p, t, g, r, ())
    unfold whoT
    rw [if_neg (show ¬ 0 ≤ gP (a, p, t, g, r, ()) from hn), if_pos (show 0 ≤ gT (a, p, t, g, r, ()) from hc)]
    rfl
  · have hc : decide (t ≥ 0) = false := by assumption
    have hc := of_decide_eq_false hc
    (repeat (first | refine AWP.seq ?_ | refine AWP.skip ?_ | refine AWP.label ?_ | refine AWP.exit ?_ | refine AWP.block ?_ | refine AWP.region hX kHA_ok rfl trivial ?_ | refine AWP.region hX kHA_ok rfl id ?_ | refine AWP.region hX kHA_ok rfl ⟨id, id⟩ ?_))
    refine AWP.ret ⟨.inr rfl, done1 rfl trivial rfl rfl ?_⟩
    show sAll = whoT (a, p, t, g, r, ())
    unfold whoT
    rw [if_neg (show ¬ 0 ≤ gP (a, p, t, g, r, ()) from hn), if_neg (show ¬ 0 ≤ gT (a, p, t, g, r, ()) from hc)]
def kHB : Kn := { pK with C := [(85, cItoa), (84, cWho)] }
theorem kHB_ok : KnOk Tryz.prog pH kHB := hK_ok.with (.cons itoa_ok (.cons who_ok .nil))
/-- a line without its end -/
def bodyT (g : Gt) : List UInt8 := if gA g = 1 then sAsk ++ whoT g ++ sGrain ++ dec (gG g).toNat else if gA g = 2 then sBook ++ whoT g else sMove ++ whoT g ++ sRank ++ dec (gR g).toNat
def lnPre (g : Gt) : List Prop := [gP g ≤ 1000000, gT g ≤ 1000000, 0 ≤ gG g, gG g ≤ 1000000, 0 ≤ gR g, gR g ≤ 1000000]
def cLn1 : Ctr := { args := [gr], pre := fun x => lnPre x.1, res := .str, own := none, out := fun x => sAsk ++ whoT x.1 ++ sGrain ++ dec (gG x.1).toNat }
def cLn2 : Ctr := { args := [gr], pre := fun x => lnPre x.1, res := .str, own := none, out := fun x => sBook ++ whoT x.1 }
def cLn3 : Ctr := { args := [gr], pre := fun x => lnPre x.1, res := .str, own := none, out := fun x => sMove ++ whoT x.1 ++ sRank ++ dec (gR x.1).toNat }
theorem line1_ok : CtrOk Tryz.prog pH 83 cLn1 := by
  refine ctr_of_awp (K := kHB) kHB_ok Tryz.func83 rfl rfl Tryz.call83 rfl (by decide) (by intro h; cases h) ?_
  rintro w0 X hX ⟨⟨(a : Int), (p : Int), (t : Int), (g : Int), (r : Int), _⟩, _⟩ hp
  obtain ⟨h1, h2, h3, h4, h5, h6⟩ : p ≤ 1000000 ∧ t ≤ 1000000 ∧ 0 ≤ g ∧ g ≤ 1000000 ∧ 0 ≤ r ∧ r ≤ 1000000 := hp
  change AWP _ _ _ _ _ ⟨[(0, ⟨gr, (a, p, t, g, r, ())⟩)], [], 0⟩ _
  have hd := dec_length g.toNat (by omega)
  have hw := whoT_length (g := (a, p, t, g, r, ())) h1 h2
  (repeat (first | refine AWP.seq ?_ | refine AWP.skip ?_ | refine AWP.label ?_ | refine AWP.exit ?_ | refine AWP.block ?_ | refine AWP.region hX kHB_ok rfl trivial ?_ | refine AWP.region hX kHB_ok rfl id ?_ | refine AWP.region hX kHB_ok rfl ⟨id, id⟩ ?_))
  (repeat (first | refine AWP.seq ?_ | refine AWP.skip ?_ | refine AWP.block ?_ | refine AWP.exit ?_)); refine AWP.draw dM hX kHB_ok 8 (by kernel_rfl) rfl rfl ?_ ?_ ?_
  · refine ⟨h1, h2, ?_, ?_, h3, h4, ?_⟩
    · show 4 + (whoT (a, p, t, g, r, ())).length ≤ maxLen; unfold maxLen; omega
    · show (sAsk ++ whoT (a, p, t, g, r, ())).length + 7 ≤ maxLen; rw [List.length_append]; show 4 + _ + 7 ≤ _; unfold maxLen; omega
    · show (sAsk ++ whoT (a, p, t, g, r, ()) ++ sGrain).length + (dec g.toNat).length ≤ maxLen; rw [List.length_append, List.length_append]; show 4 + _ + 7 + _ ≤ _; unfold maxLen; omega
  · trivial
  exact AWP.ret ⟨.inr rfl, done1 rfl trivial rfl rfl rfl⟩
theorem line2_ok : CtrOk Tryz.prog pH 86 cLn2 := by
  refine ctr_of_awp (K := kHB) kHB_ok Tryz.func86 rfl rfl Tryz.call86 rfl (by decide) (by intro h; cases h) ?_
  rintro w0 X hX ⟨⟨(a : Int), (p : Int), (t : Int), (g : Int), (r : Int), _⟩, _⟩ hp
  obtain ⟨h1, h2, h3, h4, h5, h6⟩ : p ≤ 1000000 ∧ t ≤ 1000000 ∧ 0 ≤ g ∧ g ≤ 1000000 ∧ 0 ≤ r ∧ r ≤ 1000000 := hp
  change AWP _ _ _ _ _ ⟨[(0, ⟨gr, (a, p, t, g, r, ())⟩)], [], 0⟩ _
  have hw := whoT_length (g := (a, p, t, g, r, ())) h1 h2
  (repeat (first | refine AWP.seq ?_ | refine AWP.skip ?_ | refine AWP.label ?_ | refine AWP.exit ?_ | refine AWP.block ?_ | refine AWP.region hX kHB_ok rfl trivial ?_ | refine AWP.region hX kHB_ok rfl id ?_ | refine AWP.region hX kHB_ok rfl ⟨id, id⟩ ?_))
  (repeat (first | refine AWP.seq ?_ | refine AWP.skip ?_ | refine AWP.block ?_ | refine AWP.exit ?_)); refine AWP.region hX kHB_ok rfl ?_ ?_
  · refine ⟨h1, h2, ?_⟩
    show 5 + (whoT (a, p, t, g, r, ())).length ≤ maxLen; unfold maxLen; omega
  exact AWP.ret ⟨.inr rfl, done1 rfl trivial rfl rfl rfl⟩
theorem line3_ok : CtrOk Tryz.prog pH 87 cLn3 := by
  refine ctr_of_awp (K := kHB) kHB_ok Tryz.func87 rfl rfl Tryz.call87 rfl (by decide) (by intro h; cases h) ?_
  rintro w0 X hX ⟨⟨(a : Int), (p : Int), (t : Int), (g : Int), (r : Int), _⟩, _⟩ hp
  obtain ⟨h1, h2, h3, h4, h5, h6⟩ : p ≤ 1000000 ∧ t ≤ 1000000 ∧ 0 ≤ g ∧ g ≤ 1000000 ∧ 0 ≤ r ∧ r ≤ 1000000 := hp
  change AWP _ _ _ _ _ ⟨[(0, ⟨gr, (a, p, t, g, r, ())⟩)], [], 0⟩ _
  have hd := dec_length r.toNat (by omega)
  have hw := whoT_length (g := (a, p, t, g, r, ())) h1 h2
  (repeat (first | refine AWP.seq ?_ | refine AWP.skip ?_ | refine AWP.label ?_ | refine AWP.exit ?_ | refine AWP.block ?_ | refine AWP.region hX kHB_ok rfl trivial ?_ | refine AWP.region hX kHB_ok rfl id ?_ | refine AWP.region hX kHB_ok rfl ⟨id, id⟩ ?_))
  (repeat (first | refine AWP.seq ?_ | refine AWP.skip ?_ | refine AWP.block ?_ | refine AWP.exit ?_)); refine AWP.draw dM hX kHB_ok 8 (by kernel_rfl) rfl rfl ?_ ?_ ?_
  · refine ⟨h1, h2, ?_, ?_, h5, h6, ?_⟩
    · show 5 + (whoT (a, p, t, g, r, ())).length ≤ maxLen; unfold maxLen; omega
    · show (sMove ++ whoT (a, p, t, g, r, ())).length + 6 ≤ maxLen; rw [List.length_append]; show 5 + _ + 6 ≤ _; unfold maxLen; omega
    · show (sMove ++ whoT (a, p, t, g, r, ()) ++ sRank).length + (dec r.toNat).length ≤ maxLen; rw [List.length_append, List.length_append]; show 5 + _ + 6 + _ ≤ _; unfold maxLen; omega
  · trivial
  exact AWP.ret ⟨.inr rfl, done1 rfl trivial rfl rfl rfl⟩
/-- the functions by acts -/
def lineFn (a : Int) : Value := if a = 1 then .func (.func 83) #[] #[] else if a = 2 then .func (.func 86) #[] #[] else .func (.func 87) #[] #[]
def fnEs : List (Value × Value) := [(.int .i64 1, .func (.func 83) #[] #[]), (.int .i64 2, .func (.func 86) #[] #[]), (.int .i64 3, .func (.func 87) #[] #[])]
def cLinesM : Ctr := { args := [], pre := fun _ => [], res := .mapL, own := none, out := fun _ => fnEs }
theorem fn_look {a : Int} (h : 1 ≤ a ∧ a ≤ 3) : findP (.int .i64) (.int .i64 a) fnEs = some (some (lineFn a)) := by
  rcases (show a = 1 ∨ a = 2 ∨ a = 3 by omega) with rfl | rfl | rfl <;> rfl
theorem lines_ok : CtrOk Tryz.prog pH 47 cLinesM := by
  refine ctr_of_awp (K := pK) hK_ok Tryz.func47 rfl rfl Tryz.call47 rfl (by decide) (by intro h; cases h) ?_
  rintro w0 X hX _ hp
  change AWP _ _ _ _ _ ⟨[], [], 0⟩ _
  refine AWP.seq ?_
  (repeat (first | refine AWP.seq ?_ | refine AWP.skip ?_ | refine AWP.block ?_ | refine AWP.exit ?_)); refine AWP.region hX hK_ok rfl ?_ ?_
  · trivial
  (repeat (first | refine AWP.seq ?_ | refine AWP.skip ?_ | refine AWP.block ?_ | refine AWP.exit ?_)); refine AWP.list ?_
  refine AL.mapLit hX Tryz.underlying80 Tryz.underlying3 rfl fnEs (ins := [_, _, _]) rfl rfl rfl rfl (.cons rfl (fun _ => rfl) (fun _ => rfl) rfl rfl (.cons rfl (fun _ => rfl) (fun _ => rfl) rfl rfl (.cons rfl (fun _ => rfl) (fun _ => rfl) rfl rfl rfl))) ⟨rfl, rfl, rfl, trivial⟩ ?_
  refine AL.all hX hK_ok rfl trivial ?_
  (repeat (first | refine AWP.seq ?_ | refine AWP.skip ?_ | refine AWP.block ?_ | refine AWP.exit ?_)); exact AWP.ret ⟨.inr rfl, done1 rfl trivial rfl rfl rfl⟩
end Go.Proofs.YthkhgpbjfcmopaaGreatDoor
namespace Go.Proofs.YthkhgpbjfcmopaaGreatDoor
open Go Go.RowKit
set_option linter.unusedSimpArgs false
set_option linter.unusedVariables false
set_option maxRecDepth 100000
theorem writeString_call (B b : Nat) (bs : List Value) (s : ByteArray) (w : World) (h : Lib.IsBuilderF 79 5 B b bs w) (hlen : bs.length + s.size ≤ 140737488355328) (hBw : B ≤ w.heap.size) :
    Calls Tryz.prog 48 #[.pointer (some ⟨b, 0, none⟩), .string s] w fun e w' => e = .returned (.tuple #[.int .i64 s.size, .nilIface]) ∧ (Lib.BuilderAtF 79 5 B b (.pointer (some ⟨b, 0, none⟩)) (bs ++ Lib.strCells s) w' ∧ Below B w w' ∧ Lib.OthersKept 5 (some b) w w') :=
  Any.Builder_WriteString_k Tryz.lays166 Tryz.Builder_Extra_166 B b bs s w h hlen hBw
theorem string_call (B b : Nat) (l : List UInt8) (w : World) (h : Lib.IsBuilderF 79 5 B b (Lib.byteCells l) w) (hBw : B ≤ w.heap.size) :
    Calls Tryz.prog 49 #[.pointer (some ⟨b, 0, none⟩)] w fun e w' => e = .returned (.string ⟨l.toArray⟩) ∧ (Lib.IsBuilderF 79 5 B b (Lib.byteCells l) w' ∧ Below B w w' ∧ Lib.OthersKept 5 (some b) w w') :=
  Any.Builder_String_any_k Tryz.lays169 Tryz.Builder_Extra_169 B b l w h hBw
def cFormatP : Ctr := { args := [po], pre := fun _ => [], res := .tup .str (.tup i64 .unit), own := none, out := fun x => if OkP x.1.1 then (text x.1.1, 0, ()) else ([], 1, ()) }
def fmF (b : Nat) (sv : Value) (l : List Gt) (k : Nat) : List (Nat × V) := [(4, ⟨.lit, .pointer (some ⟨b, 0, none⟩)⟩), (5, ⟨.mapL, fnEs⟩), (13, ⟨.lit, sv⟩), (14, ⟨i64, ((l.length : Nat) : Int)⟩), (15, ⟨i64, (k : Int)⟩)]
/-- a builder of the call's own, in whatever later world -/
theorem builder_below {T e : TypeId} {B b : Nat} {bs : List Value} {w w' : World} (h : Lib.IsBuilderF T e B b bs w) (hb : Below w.heap.size w w') : Lib.IsBuilderF T e B b bs w' := by
  have key : ∀ p, Lib.BuilderAtF T e B b p bs w → Lib.BuilderAtF T e B b p bs w' := fun p ⟨hB, v, h1, h2, h3⟩ => by
    have hg : w.grownBy w' none := ⟨hb.os, hb.tape, hb.output, hb.size, fun k hk _ => hb.block k hk⟩
    refine ⟨hB, v, (hb.block b (Array.getElem?_eq_some_iff.1 h1).1).trans h1, h2.kept hg ?_, h3⟩
    cases hv : v.ownBlock with
    | none => exact .inl rfl
    | some g => exact .inr (fun e => by cases e)
  exact h.elim (fun x => .inl (key _ x)) (fun x => .inr (key _ x))
theorem below_mono {B B' : Nat} {w w' : World} (h : Below B w w') (hB : B' ≤ B) : Below B' w w' := ⟨h.os, h.tape, h.output, h.size, fun k hk => h.block k (Nat.lt_of_lt_of_le hk hB)⟩
/-- the call's own kit: a plain state over a world -/
theorem plain_ok {O : Nat → Prop} {B : Nat} {w w0 : World} (hO : ∀ g, O g → g < B) (hB : B ≤ w.heap.size) (hG : pH w) : (Ownr.plain pH O).Ok w :=
  have hXR : ∀ g, ¬ (Ownr.plain pH O).R g := fun g ⟨i, h, _⟩ => absurd h (Nat.not_lt_zero _)
  ⟨fun g h => ⟨Nat.lt_of_lt_of_le (hO g h) hB, hXR g⟩, fun g h => (hXR g h).elim, fun w' hk => pH_st _ _ hG (hk.below hXR)⟩
theorem pH_lt {w : World} (h : pH w) : ¬ w.heap.size ≤ 3 ∧ ¬ w.heap.size ≤ 5 := by
  have key : ∀ g : Nat, (∃ o : Obj, w.heap[g]? = some o) → ¬ w.heap.size ≤ g := fun g ⟨o, ho⟩ h => by have := (Array.getElem?_eq_some_iff.1 ho).1; omega
  obtain ⟨ht, ev, hc, _⟩ := h
  refine ⟨key _ ?_, key _ ?_⟩
  · unfold Lib.TabIs World.var? at ht
    rw [gPow] at ht
    simp only [Option.bind_some] at ht
    cases ho : w.heap[3]? with
    | none => rw [ho] at ht; cases ht
    | some o => exact ⟨o, rfl⟩
  · unfold World.cell? at hc
    cases ho : w.heap[5]? with
    | none => simp [ho] at hc
    | some o => exact ⟨o, rfl⟩
def kHC : Kn := { pK with C := [(83, cLn1), (86, cLn2), (87, cLn3)] }
theorem kHC_ok : KnOk Tryz.prog pH kHC := hK_ok.with (.cons line1_ok (.cons line2_ok (.cons line3_ok .nil)))
def bodyOf (f : Func) : Code := f.body.getD .skip
def seqL : Code → Code
  | .seq x _ => x
  | c => c
def seqR : Code → Code
  | .seq _ y => y
  | c => c
def blkC : Code → Code
  | .block _ c => c
  | c => c
def loopC : Code → Code
  | .loop c => c
  | c => c
def regO : Code → Array Oper
  | .region _ o _ => o
  | _ => #[]
theorem fm_len {l : List Gt} (hok : OkP l) {g : Gt} (hg : OkG g) (k : Nat) : (Lib.byteCells (text (l.take k))).length + ByteArray.size ⟨(bodyT g ++ [10]).toArray⟩ ≤ 140737488355328 := by
  have htl := text_length (l := l.take k) (fun g hg => hok.2 g (List.mem_of_mem_take hg))
  have hll : l.length ≤ 64 := hok.1
  have hwr : (bodyT g ++ [10]).length ≤ 40 := lineT_length hg
  have e1 : (Lib.byteCells (text (l.take k))).length = (text (l.take k)).length := by unfold Lib.byteCells; rw [List.length_map]
  have e2 : ByteArray.size ⟨(bodyT g ++ [10]).toArray⟩ = (bodyT g ++ [10]).length := rfl
  rw [e1, e2]
  have h3 : (l.take k).length ≤ 64 := Nat.le_trans (by rw [List.length_take]; omega) hll
  generalize (l.take k).length = x at *
  generalize (text (l.take k)).length = y at *
  generalize (bodyT g ++ [10]).length = z at *
  omega
/-- Format's loop, its round behind the test, its last region but for the write -/
noncomputable def fmLoop : Code := loopC (blkC (seqR (seqL (seqR (seqR (seqR (seqR (bodyOf Tryz.f26))))))))
noncomputable def fmRound : Code := blkC (seqL (seqR (seqR fmLoop)))
noncomputable def fmOps : Array Oper := regO (seqR fmRound)
theorem fm_write {a2 : Act} {w2 : World} {b : Nat} {s : List UInt8} (h4 : a2.eval (.tmp 4) = .pointer (some ⟨b, 0, none⟩)) (h25 : a2.eval (.tmp 25) = .string ⟨s.toArray⟩) {R : Exit → Act → World → Prop} {Y : Ending → World → Prop} (hc : Calls Tryz.prog 48 #[.pointer (some ⟨b, 0, none⟩), .string ⟨s.toArray⟩] w2 Y)
    (hN : ∀ e w3, Y e w3 → ∃ v, e = .returned v ∧ R .normal (a2.put (some 26) v) w3) : wpListIn Fence.wide 0 Tryz.prog fmOps R (fmOps.toList.drop 7) a2 w2 := by
  refine wpListIn_plain rfl fun K hK => wpIn_of_wp (ρ := none) (fun c e => by cases e) (wp_enter (f := 48) rfl Tryz.call48 ?_)
  have hargs : ((#[Operand.tmp 4, Operand.tmp 25].toList.map a2.eval).toArray : Array Value) = #[.pointer (some ⟨b, 0, none⟩), .string ⟨s.toArray⟩] := by
    show #[a2.eval (.tmp 4), a2.eval (.tmp 25)] = _
    rw [h4, h25]
  show Calls _ _ ((#[Operand.tmp 4, Operand.tmp 25].toList.map a2.eval).toArray) _ _
  rw [hargs]
  refine hc.mono fun e w3 h => ?_
  obtain ⟨v, he, hr⟩ := hN e w3 h
  exact ⟨v, he, hK _ _ hr⟩
set_option maxHeartbeats 400000 in
theorem fm_round {w0 : World} {O : Nat → Prop} (hO : ∀ g, O g → g < w0.heap.size) {l : List Gt} {sv : Value} (hsv : RepS w0 O (RepC w0 O gr) l sv) (hok : OkP l) {b k : Nat} (hk : k < l.length) {w : World} (hG0 : pH w0) (hbw : Below w0.heap.size w0 w) {β : Nat → Value} {a : Act}
    (h : Sim w (Ownr.plain pH O) 29 ⟨fmF b sv l k, [], 0⟩ β a w) (hbu : Lib.IsBuilderF 79 5 w0.heap.size b (Lib.byteCells (text (l.take k))) w) :
    fmRound.wpIn Fence.wide 0 Tryz.prog (fun e a' w' => e = .normal ∧ pH w' ∧ Below w0.heap.size w0 w' ∧ (∃ β, Sim w' (Ownr.plain pH O) 29 ⟨fmF b sv l k, [], 0⟩ β a' w') ∧ Lib.IsBuilderF 79 5 w0.heap.size b (Lib.byteCells (text (l.take (k + 1)))) w') a w := by
  have hG : pH w := pH_kept (R := fun k => w0.heap.size ≤ k) (pH_lt hG0).1 (pH_lt hG0).2 hG0 ⟨hbw.os, hbw.tape, hbw.output, hbw.size, fun k hk hr => hbw.block k hk⟩
  have hX : (Ownr.plain pH O).Ok w := plain_ok (w0 := w0) hO hbw.size hG
  have hXR : ∀ g, ¬ (Ownr.plain pH O).R g := fun g ⟨i, h, _⟩ => absurd h (Nat.not_lt_zero _)
  refine wpIn_seq (Go.wpIn_mono ((show AWP Tryz.prog w (Ownr.plain pH O) 29 (seqL fmRound) ⟨fmF b sv l k, [], 0⟩ (fun e σ => e = .normal ∧ Fit σ ⟨(7, ⟨.optr gr, ⟨0, gr, .here⟩⟩) :: fmF b sv l k, [(0, some (.box gr l[k]))], 1⟩) from ?_) β a w h) ?_)
  · refine AWP.list ?_
    refine AL.hand rfl (fun c e => by cases e) fun β a w' hs => ?_
    have h13 : a.eval (.tmp 13) = sv := hs.ops (.tmp 13)
    have h15 : a.eval (.tmp 15) = .int .i64 (k : Int) := RepV.int (hs.ops (.tmp 15))
    have hb' : Below w0.heap.size w0 w' := hbw.trans (below_mono (hs.bel.below hXR) hbw.size)
    rcases hsv with ⟨rfl, _⟩ | ⟨g, off, c, vs, rfl, _, _, _, hg, hnO, hr, hc⟩
    · exact absurd hk (Nat.not_lt_zero _)
    have hkeep : Keeps w0 w' O O := ⟨hb'.size, fun g hg _ => hb'.block g hg, fun _ _ h => h⟩
    have hx := hr.nth (fun x c => RepC.len gr x c) (List.getElem?_eq_getElem hk)
    have hcell : CellsAt w' g (off + k * 5) ((vs.drop (k * 5)).take 5) := ((hc.keep (hb'.block g hg)).drop _).take _
    have hO0 : OSet (Ownr.plain pH O) (AS.mk (fmF b (.slice (some ⟨g, off, none⟩) l.length c) l k) [] 0).E β = O := OSet.nil
    refine wp_run (u := .pointer (some ⟨g, off + k * 5, none⟩)) (w' := w') ?_ ⟨⟨(17, ⟨.vptr gr, l[k]⟩) :: fmF b (.slice (some ⟨g, off, none⟩) l.length c) l k, [], 0⟩, β, hs.put (Below.refl _ _) (v := ⟨.vptr gr, l[k]⟩) ⟨g, off + k * 5, _, rfl, Nat.lt_of_lt_of_le hg hb'.size, by rw [hO0]; exact hnO, by rw [hO0]; exact RepC.keep hkeep _ _ _ hx, hcell⟩ (Nat.zero_le _) (by omega), ?_⟩
    · show (execOp a.eval { dst := some 17, op := Op.indexAddr 22 (.tmp 13) (.tmp 15), type := 0, pos := _, after := _, guard := none }).run _ _ = _
      unfold execOp
      simp only [h13, h15]
      refine run_v ?_
      have := indexAt_slice (P := Tryz.prog) (w := w') (k := .i64) (A := ⟨g, off, none⟩) (n := l.length) (c := c) (i := (k : Int)) Tryz.underlying22 (pT_ok.is (τ := gr) rfl).sizeOf (Int.natCast_nonneg _) (by omega)
      rw [this, Addr.add_mid, Int.toNat_natCast]
      rfl
    · refine AL.all hX hK_ok rfl ?_ ?_
      · trivial
      · exact ⟨rfl, ⟨rfl, rfl, rfl, rfl, rfl, rfl, trivial⟩, ⟨rfl, trivial⟩, rfl, rfl⟩
  rintro e a1 w1 ⟨σ1, β1, h1, rfl, hf1⟩
  replace h1 := h1.fit hf1 (Nat.zero_le _)
  have hg := hok.2 _ (List.getElem_mem hk)
  have hwr := lineT_length hg
  have hline : bodyT l[k] ++ [10] = lineT l[k] := rfl
  generalize hgk : l[k] = g at h1 hg hwr hline
  have h2 : AL Tryz.prog w (Ownr.plain pH O) 29 fmOps (fmOps.toList.take 7) ⟨(7, ⟨.optr gr, ⟨0, gr, .here⟩⟩) :: fmF b sv l k, [(0, some (.box gr g))], 1⟩ (fun e σ => e = .normal ∧ Fit σ ⟨(25, ⟨.str, bodyT g ++ [10]⟩) :: fmF b sv l k, [], 0⟩) := by
    refine AL.take 3 hX kHC_ok rfl trivial ?_
    refine AL.look Tryz.underlying80 Tryz.underlying3 rfl (key := .int .i64 (gA g)) (v := lineFn (gA g)) (es := fnEs) ⟨.lit, lineFn (gA g)⟩ rfl rfl rfl rfl rfl (key_int rfl) (fn_look hg.1) (fun _ _ _ => rfl) rfl ?_
    have hpre : allP (lnPre g) := by
      have q1 := hg.2.1
      have q2 := hg.2.2.1
      have q3 := hg.2.2.2.1
      have q4 : gP g ≤ 1000000 ∧ gT g ≤ 1000000 := by
        rcases q1 with q1 | q1 <;> omega
      exact ⟨q4.1, q4.2, q2.1, (by omega : gG g ≤ 1000000), q3.1, (by omega : gR g ≤ 1000000)⟩
    have hbl : (bodyT g).length ≤ 40 := by rw [← hline, List.length_append] at hwr; omega
    have hml : (40 : Nat) + 1 ≤ maxLen := by unfold maxLen; omega
    rcases (show gA g = 1 ∨ gA g = 2 ∨ gA g = 3 by have := hg.1; omega) with ha | ha | ha
    · have e1 : lineFn (gA g) = .func (.func 83) #[] #[] := by rw [ha]; rfl
      have e2 : bodyT g = sAsk ++ whoT g ++ sGrain ++ dec (gG g).toNat := by unfold bodyT; rw [if_pos ha]
      rw [e1]
      rw [e2] at hbl
      rw [e2]
      refine AL.all hX kHC_ok rfl ?_ ?_
      · exact ⟨hpre.1, hpre.2.1, hpre.2.2.1, hpre.2.2.2.1, hpre.2.2.2.2.1, hpre.2.2.2.2.2, Nat.le_trans (Nat.add_le_add_right hbl 1) hml⟩
      · exact ⟨rfl, ⟨rfl, rfl, rfl, rfl, rfl, rfl, trivial⟩, trivial, rfl, rfl⟩
    · have e1 : lineFn (gA g) = .func (.func 86) #[] #[] := by rw [ha]; rfl
      have e2 : bodyT g = sBook ++ whoT g := by unfold bodyT; rw [if_neg (by omega), if_pos ha]
      rw [e1]
      rw [e2] at hbl
      rw [e2]
      refine AL.all hX kHC_ok rfl ?_ ?_
      · exact ⟨hpre.1, hpre.2.1, hpre.2.2.1, hpre.2.2.2.1, hpre.2.2.2.2.1, hpre.2.2.2.2.2, Nat.le_trans (Nat.add_le_add_right hbl 1) hml⟩
      · exact ⟨rfl, ⟨rfl, rfl, rfl, rfl, rfl, rfl, trivial⟩, trivial, rfl, rfl⟩
    · have e1 : lineFn (gA g) = .func (.func 87) #[] #[] := by rw [ha]; rfl
      have e2 : bodyT g = sMove ++ whoT g ++ sRank ++ dec (gR g).toNat := by unfold bodyT; rw [if_neg (by omega), if_neg (by omega)]
      rw [e1]
      rw [e2] at hbl
      rw [e2]
      refine AL.all hX kHC_ok rfl ?_ ?_
      · exact ⟨hpre.1, hpre.2.1, hpre.2.2.1, hpre.2.2.2.1, hpre.2.2.2.2.1, hpre.2.2.2.2.2, Nat.le_trans (Nat.add_le_add_right hbl 1) hml⟩
      · exact ⟨rfl, ⟨rfl, rfl, rfl, rfl, rfl, rfl, trivial⟩, trivial, rfl, rfl⟩
  refine wpIn_region_list ?_
  show wpListIn Fence.wide 0 Tryz.prog fmOps _ fmOps.toList a1 w1
  rw [← List.take_append_drop 7 fmOps.toList]
  refine AL.then h2 h1 ?_ (fun e σ' β' a' w' hne _ he => (hne he.1).elim)
  clear h2
  rintro σ2 β2 a2 w2 h2 ⟨_, hf2⟩
  replace h2 := h2.fit hf2 (Nat.zero_le _)
  have hb2 : Below w0.heap.size w0 w2 := hbw.trans (below_mono (h2.bel.below hXR) hbw.size)
  have hbu2 := builder_below hbu (h2.bel.below hXR)
  have h25 : a2.eval (.tmp 25) = .string ⟨(bodyT g ++ [10]).toArray⟩ := (RepV.str (h2.ops (.tmp 25))).1
  have h4 : a2.eval (.tmp 4) = .pointer (some ⟨b, 0, none⟩) := h2.ops (.tmp 4)
  have hlen := fm_len hok hg k
  have hcall := writeString_call w0.heap.size b (Lib.byteCells (text (l.take k))) ⟨(bodyT g ++ [10]).toArray⟩ w2 hbu2 hlen hb2.size
  clear hlen
  refine fm_write h4 h25 hcall ?_
  rintro e w3 ⟨rfl, hbu3, hb3, hk3⟩
  refine ⟨_, rfl, ?_⟩
  have hb03 : Below w0.heap.size w0 w3 := hb2.trans hb3
  have hG3 : pH w3 := pH_kept (R := fun k => w0.heap.size ≤ k) (pH_lt hG0).1 (pH_lt hG0).2 hG0 ⟨hb03.os, hb03.tape, hb03.output, hb03.size, fun k hk hr => hb03.block k hk⟩
  have hnext : Lib.IsBuilderF 79 5 w0.heap.size b (Lib.byteCells (text (l.take (k + 1)))) w3 := by
    have e : Lib.byteCells (text (l.take (k + 1))) = Lib.byteCells (text (l.take k)) ++ Lib.strCells ⟨(bodyT g ++ [10]).toArray⟩ := by
      rw [List.take_succ_eq_append_getElem hk, text_snoc, Lib.byteCells_append, hgk]
      rfl
    rw [e]
    exact .inr hbu3
  refine ⟨rfl, hG3, hb03, ⟨fun _ => undef, ?_⟩, hnext⟩
  generalize hv26 : Value.tuple #[.int .i64 (ByteArray.size ⟨(bodyT g ++ [10]).toArray⟩), .nilIface] = v26
  have hget : ∀ s, s ≠ 26 → (a2.put (some 26) v26).tmps.getD s undef = a2.tmps.getD s undef := fun s hs => by
    rw [Act.put_get (by rw [h2.sz]; omega), if_neg (Ne.symm hs)]
  have hmap := h2.fr 5
  refine Sim.fresh rfl (by rw [Act.put_size]; exact h2.sz) (by rw [Act.put_defers]; exact h2.df) (rep_cons ?_ (rep_cons ?_ (rep_cons ?_ (rep_cons ?_ (rep_cons ?_ rep_nil))))) rfl
  · rw [hget 4 (by decide)]; exact h2.fr 4
  · rw [hget 5 (by decide)]
    obtain ⟨r, ms, ck, q1, q2, q3, q4, q5⟩ := hmap
    have hrb : r ≠ b := fun e => by
      have hcell : ∃ cs, w2.heap[b]? = some (.cells cs 79 (0, 0)) := by
        rcases hbu2 with ⟨_, v, q6, _⟩ | ⟨_, v, q6, _⟩ <;> exact ⟨_, q6⟩
      obtain ⟨cs, hcell⟩ := hcell
      rw [e, hcell] at q4
      cases q4
    exact ⟨r, ms, ck, q1, Nat.lt_of_lt_of_le q2 hb3.size, fun h => q3 (.inl h), hk3 r _ q4 (fun e => hrb (Option.some.inj e)) (fun c fz e => by cases e), q5⟩
  · rw [hget 13 (by decide)]; exact h2.fr 13
  · rw [hget 14 (by decide)]; exact h2.fr 14
  · rw [hget 15 (by decide)]; exact h2.fr 15
/-- what holds ahead of the k-th round -/
def fmAt (w0 : World) (O : Nat → Prop) (b : Nat) (sv : Value) (l : List Gt) (k : Nat) (a : Act) (w : World) : Prop :=
  Below w0.heap.size w0 w ∧ (∃ β, Sim w (Ownr.plain pH O) 29 ⟨fmF b sv l k, [], 0⟩ β a w) ∧ Lib.IsBuilderF 79 5 w0.heap.size b (Lib.byteCells (text (l.take k))) w
theorem plain_R (O : Nat → Prop) : ∀ g, ¬ (Ownr.plain pH O).R g := fun g ⟨i, h, _⟩ => absurd h (Nat.not_lt_zero _)
theorem fm_ok {w0 : World} {O : Nat → Prop} (hO : ∀ g, O g → g < w0.heap.size) (hG0 : pH w0) {w : World} (hb : Below w0.heap.size w0 w) : (Ownr.plain pH O).Ok w :=
  plain_ok (w0 := w0) hO hb.size (pH_kept (R := fun k => w0.heap.size ≤ k) (pH_lt hG0).1 (pH_lt hG0).2 hG0 ⟨hb.os, hb.tape, hb.output, hb.size, fun k hk _ => hb.block k hk⟩)
/-- quiet code from one such place to another -/
theorem fmAt.on {w0 : World} {O : Nat → Prop} {b : Nat} {sv : Value} {l : List Gt} {k k' : Nat} {a a' : Act} {w w' : World} (h : fmAt w0 O b sv l k a w) {σ : AS} {β : Nat → Value} (hs : Sim w (Ownr.plain pH O) 29 σ β a' w') (hf : Fit σ ⟨fmF b sv l k', [], 0⟩) (hk : text (l.take k') = text (l.take k)) : fmAt w0 O b sv l k' a' w' := by
  have hb := hs.bel.below (plain_R O)
  refine ⟨h.1.trans (below_mono hb h.1.size), ⟨β, (hs.fit hf (Nat.zero_le _)).rebase rfl rfl ⟨rfl, rfl, rfl, rfl, rfl, trivial⟩ rfl⟩, ?_⟩
  rw [hk]
  exact builder_below h.2.2 hb
theorem fm_loop {w0 : World} {O : Nat → Prop} (hO : ∀ g, O g → g < w0.heap.size) {l : List Gt} {sv : Value} (hsv : RepS w0 O (RepC w0 O gr) l sv) (hok : OkP l) {b : Nat} (hG0 : pH w0) {a : Act} {w : World} (h0 : fmAt w0 O b sv l 0 a w) :
    (Code.block 0 (.loop fmLoop)).wpIn Fence.wide 0 Tryz.prog (fun e a' w' => e = .normal ∧ fmAt w0 O b sv l l.length a' w') a w := by
  refine wpIn_block ?_
  refine wpIn_family (fun k a w => k ≤ l.length ∧ fmAt w0 O b sv l k a w) (fun k => l.length - k) 0 ⟨Nat.zero_le _, h0⟩ ?_
  rintro k a w ⟨hk, h⟩
  have hll : l.length ≤ 64 := hok.1
  obtain ⟨β, hs⟩ := h.2.1
  have hX : (Ownr.plain pH O).Ok w := fm_ok hO hG0 h.1
  refine wpIn_seq (Go.wpIn_mono ((show AWP Tryz.prog w (Ownr.plain pH O) 29 (seqL fmLoop) ⟨fmF b sv l k, [], 0⟩ (fun e σ => e = .normal ∧ Fit σ ⟨(16, ⟨.bool, decide ((k : Int) < (l.length : Nat))⟩) :: fmF b sv l k, [], 0⟩) from ?_) β a w hs) ?_)
  · refine AWP.list (AL.all hX hK_ok rfl ?_ ?_)
    · trivial
    · exact ⟨rfl, ⟨rfl, rfl, rfl, rfl, rfl, rfl, trivial⟩, trivial, rfl, rfl⟩
  rintro e a1 w1 ⟨σ1, β1, h1, rfl, hf1⟩
  replace h1 := h1.fit hf1 (Nat.zero_le _)
  refine wpIn_seq (Go.wpIn_mono ((show AWP Tryz.prog w (Ownr.plain pH O) 29 (seqL (seqR fmLoop)) ⟨(16, ⟨.bool, decide ((k : Int) < (l.length : Nat))⟩) :: fmF b sv l k, [], 0⟩ (fun e σ => ((e = .exit 0 ∧ ¬ k < l.length) ∨ (e = .normal ∧ k < l.length)) ∧ Fit σ ⟨fmF b sv l k, [], 0⟩) from ?_) β1 a1 w1 h1) ?_)
  · refine AWP.cond rfl (fun hb => ?_) (fun hb => ?_)
    · have hb := of_decide_eq_true (show decide ((k : Int) < (l.length : Nat)) = true from hb)
      exact AWP.skip ⟨.inr ⟨rfl, by omega⟩, ⟨rfl, rfl, rfl, rfl, rfl, trivial⟩, trivial, rfl, rfl⟩
    · have hb := of_decide_eq_false (show decide ((k : Int) < (l.length : Nat)) = false from hb)
      exact AWP.exit ⟨.inl ⟨rfl, by omega⟩, ⟨rfl, rfl, rfl, rfl, rfl, trivial⟩, trivial, rfl, rfl⟩
  rintro e a2 w2 ⟨σ2, β2, h2, he, hf2⟩
  have hat2 : fmAt w0 O b sv l k a2 w2 := h.on h2 hf2 rfl
  rcases he with ⟨rfl, hge⟩ | ⟨rfl, hlt⟩
  · have : k = l.length := by omega
    subst this
    simp only [Exit.then, Exit.inBlock, if_true]
    exact ⟨trivial, hat2⟩
  obtain ⟨hb2, ⟨β3, hs3⟩, hbu3⟩ := hat2
  refine wpIn_seq (wpIn_block (Go.wpIn_mono (fm_round hO hsv hok hlt hG0 hb2 hs3 hbu3) ?_))
  rintro e a4 w4 ⟨rfl, _, hb4, ⟨β4, hs4⟩, hbu4⟩
  have hX4 : (Ownr.plain pH O).Ok w4 := fm_ok hO hG0 hb4
  refine Go.wpIn_mono ((show AWP Tryz.prog w4 (Ownr.plain pH O) 29 (seqR (seqR (seqR fmLoop))) ⟨fmF b sv l k, [], 0⟩ (fun e σ => e = .normal ∧ Fit σ ⟨fmF b sv l (k + 1), [], 0⟩) from ?_) β4 a4 w4 hs4) ?_
  · refine AWP.list (AL.all hX4 hK_ok rfl ?_ ?_)
    · exact inR_succ (by omega)
    · exact ⟨rfl, ⟨rfl, rfl, rfl, rfl, vSucc _, trivial⟩, trivial, rfl, rfl⟩
  rintro e a5 w5 ⟨σ5, β5, h5, rfl, hf5⟩
  have hb5 := h5.bel.below (plain_R O)
  exact ⟨k + 1, by omega, by omega, hb4.trans (below_mono hb5 hb4.size), ⟨β5, (h5.fit hf5 (Nat.zero_le _)).rebase rfl rfl ⟨rfl, rfl, rfl, rfl, rfl, trivial⟩ rfl⟩, builder_below hbu4 hb5⟩
def kHD : Kn := { pK with C := [(17, cValid), (47, cLinesM)] }
theorem kHD_ok : KnOk Tryz.prog pH kHD := hK_ok.with (.cons valid_ok.lift (.cons lines_ok .nil))
noncomputable def fmX1 : Code := seqR (bodyOf Tryz.f26)
noncomputable def fmX2 : Code := seqR fmX1
noncomputable def fmX3 : Code := seqR fmX2
noncomputable def fmX4 : Code := seqR fmX3
def ptrL (g : Nat) : V := ⟨.lit, .pointer (some ⟨g, 0, none⟩)⟩
/-- the policy's cell is read -/
theorem fm_test {w1 : World} {O : Nat → Prop} (hX : (Ownr.plain pH O).Ok w1) {l : List Gt} {sv : Value} {g1 : Nat} (hg1 : w1.heap[g1]? = some (.cells #[sv] 24 (0, 0))) (hsv : RepS w1 O (RepC w1 O gr) l sv) :
    AWP Tryz.prog w1 (Ownr.plain pH O) 29 (seqL fmX1) ⟨[(1, ptrL g1)], [], 0⟩ (fun e σ => (e = .ret ∧ ¬ OkP l ∧ Done pK.T Tryz.f26.results.toList σ none (.tup .str (.tup i64 .unit)) ([], 1, ())) ∨ (e = .normal ∧ OkP l ∧ Fit σ ⟨[(1, ptrL g1)], [], 0⟩)) := by
  refine AWP.seq (AWP.list ?_)
  refine AL.hand rfl (fun c e => by cases e) fun β a w' hs => ?_
  have h1 : a.eval (.tmp 1) = .pointer (some ⟨g1, 0, none⟩) := hs.ops (.tmp 1)
  have hb := hs.bel.below (plain_R O)
  have hlt := (Array.getElem?_eq_some_iff.1 hg1).1
  have hg1' : w'.heap[g1]? = some (.cells #[sv] 24 (0, 0)) := (hb.block g1 hlt).trans hg1
  have hkeep : Keeps w1 w' O O := ⟨hb.size, fun g hg _ => hb.block g hg, fun _ _ h => h⟩
  have hO0 : OSet (Ownr.plain pH O) (AS.mk [(1, ptrL g1)] [] 0).E β = O := OSet.nil
  obtain ⟨u, h6, h7⟩ := (pT_ok.is (τ := po) (t := 24) rfl).loadAt (P := Tryz.prog) (w := w') (O := O) (x := (l, ())) (cs := [sv]) (g := g1) (off := 0) ⟨[sv], [], rfl, ⟨sv, rfl, hsv.keep hkeep fun x c h => RepC.keep hkeep _ _ _ h⟩, rfl⟩ (fun j u hu => by
    unfold World.cell?
    rw [Nat.zero_add, hg1']
    simpa using hu)
  refine wp_run (u := u) (w' := w') ?_ ⟨⟨[(8, ⟨po, (l, ())⟩), (1, ptrL g1)], [], 0⟩, β, hs.put (Below.refl _ _) (v := ⟨po, (l, ())⟩) (by rw [hO0]; exact h7) (Nat.zero_le _) (by omega), ?_⟩
  · show (execOp a.eval { dst := some 8, op := Op.load 24 (.tmp 1), type := _, pos := _, after := _, guard := none }).run _ _ = _
    unfold execOp
    simp only [h1]
    exact run_v h6
  refine AL.all hX kHD_ok rfl trivial ?_
  refine AWP.cond rfl (fun hb => ?_) (fun hb => ?_)
  · have hb : (!decide (OkP l)) = true := hb
    refine AWP.seq ?_
    (repeat (first | refine AWP.seq ?_ | refine AWP.skip ?_ | refine AWP.block ?_ | refine AWP.exit ?_)); refine AWP.region hX kHD_ok rfl ?_ ?_
    · trivial
    refine AWP.ret (.inl ⟨rfl, by simpa using hb, ?_⟩)
    exact done2 (by decide) rfl rfl trivial rfl
  · have hb : (!decide (OkP l)) = false := hb
    exact AWP.skip (.inr ⟨rfl, by simpa using hb, ⟨rfl, trivial⟩, trivial, rfl, rfl⟩)
/-- the slice of the grants, by its own value -/
theorem fm_range {w4 : World} {O : Nat → Prop} (hX : (Ownr.plain pH O).Ok w4) {l : List Gt} {sv : Value} {g1 b : Nat} (hg1 : w4.heap[g1]? = some (.cells #[sv] 24 (0, 0))) (hsv : RepS w4 O (RepC w4 O gr) l sv) :
    AWP Tryz.prog w4 (Ownr.plain pH O) 29 (seqL (seqL fmX4)) ⟨[(5, ⟨.mapL, fnEs⟩), (1, ptrL g1), (4, ptrL b)], [], 0⟩ (fun e σ => e = .normal ∧ Fit σ ⟨fmF b sv l 0, [], 0⟩) := by
  obtain ⟨A, c, rfl, _⟩ := hsv.nlen
  refine AWP.list ?_
  have hlt := (Array.getElem?_eq_some_iff.1 hg1).1
  refine AL.hand rfl (fun c e => by cases e) fun β a w' hs => ?_
  have h1 : a.eval (.tmp 1) = .pointer (some ⟨g1, 0, none⟩) := hs.ops (.tmp 1)
  obtain ⟨f, r, hu, hf⟩ : ∃ f fs, Tryz.prog.underlying 24 = some (.struct fs) ∧ (fs[0]? = some f ∧ f.offset = 0 ∧ Lay Tryz.prog (.slice gr) (.inl f.type)) := by
    obtain ⟨fs, h2, _, f, rr, h3, h4, h5, h6⟩ := (pT_ok.is (τ := po) (t := 24) rfl : Lay Tryz.prog po (.inl _))
    refine ⟨f, fs, h2, ?_, h4, h5⟩
    rw [← Array.getElem?_toList, h3]
    rfl
  refine wp_run (u := .pointer (some ⟨g1, 0, none⟩)) (w' := w') ?_ ⟨⟨(12, ptrL g1) :: [(5, ⟨.mapL, fnEs⟩), (1, ptrL g1), (4, ptrL b)], [], 0⟩, β, hs.put (Below.refl _ _) (v := ptrL g1) rfl (Nat.zero_le _) (by omega), ?_⟩
  · show (execOp a.eval { dst := some 12, op := Op.fieldAddr 24 (.tmp 1) 0, type := _, pos := _, after := _, guard := none }).run _ _ = _
    unfold execOp
    simp only [h1]
    refine run_v ?_
    rw [fieldAt_run hu hf.1 hf.2.2 (by decide), hf.2.1]
    rfl
  refine AL.hand rfl (fun c e => by cases e) fun β a w' hs => ?_
  have h12 : a.eval (.tmp 12) = .pointer (some ⟨g1, 0, none⟩) := hs.ops (.tmp 12)
  have hb := hs.bel.below (plain_R O)
  have hg1' : w'.heap[g1]? = some (.cells #[.slice A l.length c] 24 (0, 0)) := (hb.block g1 hlt).trans hg1
  refine wp_run (u := .slice A l.length c) (w' := w') ?_ ⟨⟨(13, ⟨.lit, .slice A l.length c⟩) :: (12, ptrL g1) :: [(5, ⟨.mapL, fnEs⟩), (1, ptrL g1), (4, ptrL b)], [], 0⟩, β, hs.put (Below.refl _ _) (v := ⟨.lit, .slice A l.length c⟩) rfl (Nat.zero_le _) (by omega), ?_⟩
  · show (execOp a.eval { dst := some 13, op := Op.load 22 (.tmp 12), type := _, pos := _, after := _, guard := none }).run _ _ = _
    unfold execOp
    simp only [h12]
    refine run_v (loadOne (pT_ok.is (τ := .slice gr) (t := 22) rfl) rfl ?_)
    unfold World.cell?
    rw [hg1']
    rfl
  refine AL.hand rfl (fun c e => by cases e) fun β a w' hs => ?_
  have h13 : a.eval (.tmp 13) = .slice A l.length c := hs.ops (.tmp 13)
  refine wp_run (u := .int .i64 ((l.length : Nat) : Int)) (w' := w') ?_ ⟨⟨(14, ⟨i64, ((l.length : Nat) : Int)⟩) :: (13, ⟨.lit, .slice A l.length c⟩) :: (12, ptrL g1) :: [(5, ⟨.mapL, fnEs⟩), (1, ptrL g1), (4, ptrL b)], [], 0⟩, β, hs.put (Below.refl _ _) (v := ⟨i64, ((l.length : Nat) : Int)⟩) (RepV.ofInt (k := .i64)) (Nat.zero_le _) (by omega), ?_⟩
  · show (execOp a.eval { dst := some 14, op := Op.call { callee := .builtin .len, args := #[.tmp 13], argTypes := #[22] }, type := _, pos := _, after := _, guard := none }).run _ _ = _
    unfold execOp
    simp [resolve, invoke, builtin, h13, Builtin.len_, run_underlying Tryz.underlying22, goInt]
  refine AL.all hX hK_ok rfl trivial ?_
  exact ⟨rfl, ⟨rfl, rfl, rfl, rfl, rfl, trivial⟩, trivial, rfl, rfl⟩
theorem getD_put {a : Act} {d s : Nat} {v : Value} (hd : d < a.tmps.size) (h : d ≠ s) : (a.put (some d) v).tmps.getD s undef = a.tmps.getD s undef := by rw [Act.put_get hd, if_neg h]
theorem getD_put_self {a : Act} {d : Nat} {v : Value} (hd : d < a.tmps.size) : (a.put (some d) v).tmps.getD d undef = v := by rw [Act.put_get hd, if_pos rfl]
theorem fm_last {w0 : World} {O : Nat → Prop} (hO : ∀ g, O g → g < w0.heap.size) {l : List Gt} {sv : Value} (hok : OkP l) {b : Nat} (hG0 : pH w0) {a : Act} {w : World} (h : fmAt w0 O b sv l l.length a w) :
    (seqR fmX4).wpIn Fence.wide 0 Tryz.prog (bodyPost Tryz.prog Tryz.f26 fun e w' => ∃ v, e = .returned v ∧ Below w0.heap.size w0 w' ∧ ResRel w' O w0.heap.size none (.tup .str (.tup i64 .unit)) (text l, 0, ()) v) a w := by
  obtain ⟨hb, ⟨β, hs⟩, hbu⟩ := h
  rw [List.take_length] at hbu
  have hlen : (text l).length ≤ maxLen := by
    have h1 := text_length hok.2
    have h2 : l.length ≤ 64 := hok.1
    unfold maxLen
    omega
  refine wpIn_seq (Go.wpIn_mono (Q := fun e a' w' => e = .normal ∧ Below w0.heap.size w0 w' ∧ ∃ β', Sim w' (Ownr.plain pH O) 29 ⟨[(2, ⟨.str, text l⟩), (3, ⟨i64, (0 : Int)⟩)], [], 0⟩ β' a' w') ?_ ?_)
  · refine wpIn_region_list ?_
    have h4 : a.eval (.tmp 4) = .pointer (some ⟨b, 0, none⟩) := hs.ops (.tmp 4)
    refine wpListIn_plain rfl fun K hK => wpIn_of_wp (ρ := none) (fun c e => by cases e) (wp_enter (f := 49) rfl Tryz.call49 ?_)
    have hargs : ((#[Operand.tmp 4].toList.map a.eval).toArray : Array Value) = #[.pointer (some ⟨b, 0, none⟩)] := by
      show #[a.eval (.tmp 4)] = _
      rw [h4]
    show Calls _ _ ((#[Operand.tmp 4].toList.map a.eval).toArray) _ _
    rw [hargs]
    refine (string_call w0.heap.size b (text l) w hbu hb.size).mono ?_
    rintro e w' ⟨rfl, _, hb', _⟩
    refine ⟨_, rfl, hK _ _ ?_⟩
    have hbw : Below w0.heap.size w0 w' := hb.trans hb'
    have hX' : (Ownr.plain pH O).Ok w' := fm_ok hO hG0 hbw
    have hs' : Sim w' (Ownr.plain pH O) 29 ⟨[(28, ⟨.str, text l⟩)], [], 0⟩ (fun _ => undef) (a.put (some 28) (.string ⟨(text l).toArray⟩)) w' := by
      refine Sim.fresh rfl (by rw [Act.put_size]; exact hs.sz) (by rw [Act.put_defers]; exact hs.df) (rep_cons ?_ rep_nil) rfl
      rw [getD_put_self (by rw [hs.sz]; omega)]
      exact ⟨rfl, hlen⟩
    have hal : AL Tryz.prog w' (Ownr.plain pH O) 29 (regO (seqL (seqR fmX4))) ((regO (seqL (seqR fmX4))).toList.drop 1) ⟨[(28, ⟨.str, text l⟩)], [], 0⟩ (fun e σ => e = .normal ∧ Fit σ ⟨[(2, ⟨.str, text l⟩), (3, ⟨i64, (0 : Int)⟩)], [], 0⟩) := AL.all hX' hK_ok rfl trivial ⟨rfl, ⟨rfl, rfl, trivial⟩, trivial, rfl, rfl⟩
    have hfin := hal _ _ _ hs'
    have := wpListIn_join (R := fun e a' w' => e = .normal ∧ Below w0.heap.size w0 w' ∧ ∃ β', Sim w' (Ownr.plain pH O) 29 ⟨[(2, ⟨.str, text l⟩), (3, ⟨i64, (0 : Int)⟩)], [], 0⟩ β' a' w') [] (fun _ _ h => h.1 rfl) (fun a' w3 ⟨_, σ', β', h1, _, h2⟩ => ⟨rfl, hbw.trans (below_mono (h1.bel.below (plain_R O)) hbw.size), β', (h1.fit h2 (Nat.zero_le _)).rebase rfl rfl ⟨rfl, rfl, trivial⟩ rfl⟩) (fun e a' w3 hne ⟨_, σ', β', h1, he, _⟩ => (hne he).elim) _ hfin
    rw [List.append_nil] at this
    exact this
  · rintro e a' w' ⟨rfl, hb', β', hs'⟩
    have hX' : (Ownr.plain pH O).Ok w' := fm_ok hO hG0 hb'
    refine Go.wpIn_mono ((show AWP Tryz.prog w' (Ownr.plain pH O) 29 .ret ⟨[(2, ⟨.str, text l⟩), (3, ⟨i64, (0 : Int)⟩)], [], 0⟩ (fun e σ => e = .ret ∧ Done pK.T Tryz.f26.results.toList σ none (.tup .str (.tup i64 .unit)) (text l, 0, ())) from AWP.ret ⟨rfl, done2 (by decide) rfl rfl trivial rfl⟩) β' a' w' hs') ?_
    rintro e a3 w3 ⟨σ3, β3, h3, rfl, hd⟩
    obtain ⟨v, h4, h5⟩ := done_res hK_ok hX' h3.seen hd (.inr (plain_R O))
    exact ⟨h3.df, v, h4, v, rfl, hb'.trans (below_mono (h3.bel.below (plain_R O)) hb'.size), fun β => repV_flat (t := .tup .str (.tup i64 .unit)) rfl (h5.resolve_left (by intro h; cases h) β)⟩
set_option maxHeartbeats 400000 in
theorem format_ok : CtrOk Tryz.prog pH 26 cFormatP := by
  refine ⟨Tryz.call26, fun w O xs vs hO hrep hp hG => ?_⟩
  obtain ⟨⟨(l : List Gt), _⟩, _⟩ := xs
  obtain ⟨v, _, rfl, hv, rfl⟩ := hrep
  have hv : RepD w O po (l, ()) v := hv
  obtain ⟨cs, rfl, c1, c2, rfl, ⟨sv, rfl, hsv⟩, rfl⟩ := (RepD.agg rfl).1 hv
  have hsv : RepS w O (RepC w O gr) l sv := hsv
  have hX : (Ownr.plain pH O).Ok w := fm_ok hO hG (Below.refl _ _)
  suffices key : ∀ a0 : Act, a0.tmps.size = 29 → a0.defers = [] → a0.tmps.getD 0 undef = .agg #[sv] → (bodyOf Tryz.f26).wpIn Fence.wide 0 Tryz.prog (bodyPost Tryz.prog Tryz.f26 fun e w' => ∃ v, e = .returned v ∧ Below w.heap.size w w' ∧ ResRel w' O w.heap.size none (.tup .str (.tup i64 .unit)) (cFormatP.out ((l, ()), ())) v) a0 w from
    (callsIn_wide (n := 0)).1 (callsIn_of_wp Tryz.func26 rfl trivial (key _ (by simp [Tryz.ntmps26]) rfl (by rw [getD_app (by simp)]; rfl)) rfl)
  intro a0 hsz0 hdf0 h00
  -- the parameter's cell
  obtain ⟨w1, hw1⟩ : ∃ w1, w1 = w.alloc (.cells #[sv] 24 (0, 0)) := ⟨_, rfl⟩
  have hb1 : Below w.heap.size w w1 := by rw [hw1]; exact below_alloc _ _
  have hg1 : w1.heap[w.heap.size]? = some (.cells #[sv] 24 (0, 0)) := by rw [hw1]; exact World.alloc_heap_new _ _
  have hX1 : (Ownr.plain pH O).Ok w1 := fm_ok hO hG hb1
  have hk1 : Keeps w w1 O O := ⟨hb1.size, fun g hg _ => hb1.block g hg, fun _ _ h => h⟩
  have hsv1 : RepS w1 O (RepC w1 O gr) l sv := hsv.keep hk1 fun x c h => RepC.keep hk1 _ _ _ h
  refine wpIn_seq (Go.wpIn_mono (Q := fun e a' w' => e = .normal ∧ ∃ σ β, Sim w1 (Ownr.plain pH O) 29 σ β a' w' ∧ Fit σ ⟨[(1, ptrL w.heap.size)], [], 0⟩) ?_ ?_)
  · refine wpIn_region_list ?_
    refine wpListIn_plain rfl fun K hK => wpIn_of_wp (ρ := none) (fun c e => by cases e) (wp_run (u := .pointer (some ⟨w.heap.size, 0, none⟩)) (w' := w1) ?_ (hK _ _ ?_))
    · rw [hw1]
      unfold execOp
      have e0 : a0.eval (.tmp 0) = .agg #[sv] := h00
      simp [Instr.box, newVar, newRow, e0]
      rfl
    · have hs1 : Sim w1 (Ownr.plain pH O) 29 ⟨[(1, ptrL w.heap.size)], [], 0⟩ (fun _ => undef) (a0.put (some 1) (.pointer (some ⟨w.heap.size, 0, none⟩))) w1 := by
        refine Sim.fresh rfl (by rw [Act.put_size]; exact hsz0) (by rw [Act.put_defers]; exact hdf0) (rep_cons ?_ rep_nil) rfl
        rw [getD_put_self (by omega)]
        rfl
      have hal : AL Tryz.prog w1 (Ownr.plain pH O) 29 (regO (seqL (bodyOf Tryz.f26))) ((regO (seqL (bodyOf Tryz.f26))).toList.drop 1) ⟨[(1, ptrL w.heap.size)], [], 0⟩ (fun e σ => e = .normal ∧ Fit σ ⟨[(1, ptrL w.heap.size)], [], 0⟩) := AL.all hX1 hK_ok rfl trivial ⟨rfl, ⟨rfl, trivial⟩, trivial, rfl, rfl⟩
      have hfin := hal _ _ _ hs1
      have := wpListIn_join (R := fun e a' w' => e = .normal ∧ ∃ σ β, Sim w1 (Ownr.plain pH O) 29 σ β a' w' ∧ Fit σ ⟨[(1, ptrL w.heap.size)], [], 0⟩) [] (fun _ _ h => h.1 rfl) (fun a' w3 ⟨_, σ', β', h1, _, h2⟩ => ⟨rfl, σ', β', h1, h2⟩) (fun e a' w3 hne ⟨_, σ', β', h1, he, _⟩ => (hne he).elim) _ hfin
      rw [List.append_nil] at this
      exact this
  rintro e a2 w2 ⟨rfl, σ2, β2, h2, hf2⟩
  replace h2 := h2.fit hf2 (Nat.zero_le _)
  -- the test
  refine wpIn_seq (Go.wpIn_mono (fm_test hX1 hg1 hsv1 β2 a2 w2 h2) ?_)
  rintro e a3 w3 ⟨σ3, β3, h3, he⟩
  have hb3 := h3.bel.below (plain_R O)
  have hbw3 : Below w.heap.size w w3 := hb1.trans (below_mono hb3 hb1.size)
  rcases he with ⟨rfl, hno, hd⟩ | ⟨rfl, hok, hf3⟩
  · obtain ⟨v, h4, h5⟩ := done_res hK_ok hX1 h3.seen hd (.inr (plain_R O))
    refine ⟨h3.df, v, h4, v, rfl, hbw3, fun β => ?_⟩
    have e : cFormatP.out ((l, ()), ()) = ([], 1, ()) := if_neg hno
    rw [e]
    exact repV_flat (t := .tup .str (.tup i64 .unit)) rfl (h5.resolve_left (by intro h; cases h) β)
  have e : cFormatP.out ((l, ()), ()) = (text l, 0, ()) := if_pos hok
  rw [e]
  replace h3 := (h3.fit hf3 (Nat.zero_le _)).rebase (F' := [(1, ptrL w.heap.size)]) rfl rfl ⟨rfl, trivial⟩ rfl
  have hg3 : w3.heap[w.heap.size]? = some (.cells #[sv] 24 (0, 0)) := (hb3.block _ (Array.getElem?_eq_some_iff.1 hg1).1).trans hg1
  -- the builder
  obtain ⟨w4, hw4⟩ : ∃ w4, w4 = w3.alloc (.cells #[.pointer none, .slice none 0 0] 79 (0, 0)) := ⟨_, rfl⟩
  have hb4 : Below w3.heap.size w3 w4 := by rw [hw4]; exact below_alloc _ _
  have hbw4 : Below w.heap.size w w4 := hbw3.trans (below_mono hb4 hbw3.size)
  have hX4 : (Ownr.plain pH O).Ok w4 := fm_ok hO hG hbw4
  have hgb : w4.heap[w3.heap.size]? = some (.cells #[.pointer none, .slice none 0 0] 79 (0, 0)) := by rw [hw4]; exact World.alloc_heap_new _ _
  have hbu4 : Lib.IsBuilderF 79 5 w.heap.size w3.heap.size (Lib.byteCells (text (l.take 0))) w4 := .inl ⟨hbw3.size, .slice none 0 0, hgb, ⟨rfl, .inl ⟨rfl, rfl⟩⟩, by intro h; cases h⟩
  refine wpIn_seq (Go.wpIn_mono (Q := fun e a' w' => e = .normal ∧ w' = w4 ∧ ∃ β, Sim w4 (Ownr.plain pH O) 29 ⟨[(1, ptrL w.heap.size), (4, ptrL w3.heap.size)], [], 0⟩ β a' w4) ?_ ?_)
  · refine wpIn_region_list ?_
    refine wpListIn_plain rfl fun K hK => wpIn_of_wp (ρ := none) (fun c e => by cases e) (wp_run (u := .pointer (some ⟨w3.heap.size, 0, none⟩)) (w' := w4) ?_ (hK _ _ ⟨rfl, rfl, fun _ => undef, ?_⟩))
    · rw [hw4]
      unfold execOp
      simp [Instr.alloc, Tryz.zeroValue79, newVar, newRow]
      rfl
    · have hs1 : a3.tmps.getD 1 undef = .pointer (some ⟨w.heap.size, 0, none⟩) := h3.fr 1
      refine Sim.fresh rfl (by rw [Act.put_size]; exact h3.sz) (by rw [Act.put_defers]; exact h3.df) (rep_cons ?_ (rep_cons ?_ rep_nil)) rfl
      · rw [getD_put (by rw [h3.sz]; omega) (by decide), hs1]
        rfl
      · rw [getD_put_self (by rw [h3.sz]; omega)]
        rfl
  rintro e a4 w4' ⟨rfl, rfl, β4, h4⟩
  -- the table
  refine wpIn_seq (Go.wpIn_mono ((show AWP Tryz.prog w4' (Ownr.plain pH O) 29 (seqL fmX3) ⟨[(1, ptrL w.heap.size), (4, ptrL w3.heap.size)], [], 0⟩ (fun e σ => e = .normal ∧ Fit σ ⟨[(5, ⟨.mapL, fnEs⟩), (1, ptrL w.heap.size), (4, ptrL w3.heap.size)], [], 0⟩) from AWP.list (AL.all hX4 kHD_ok rfl trivial ⟨rfl, ⟨rfl, rfl, rfl, trivial⟩, trivial, rfl, rfl⟩)) β4 a4 w4' h4) ?_)
  rintro e a5 w5 ⟨σ5, β5, h5, rfl, hf5⟩
  have hb5 := h5.bel.below (plain_R O)
  have hbw5 : Below w.heap.size w w5 := hbw4.trans (below_mono hb5 hbw4.size)
  have hX5 : (Ownr.plain pH O).Ok w5 := fm_ok hO hG hbw5
  have hbu5 := builder_below hbu4 hb5
  replace h5 := (h5.fit hf5 (Nat.zero_le _)).rebase (F' := [(5, ⟨.mapL, fnEs⟩), (1, ptrL w.heap.size), (4, ptrL w3.heap.size)]) rfl rfl ⟨rfl, rfl, rfl, trivial⟩ rfl
  have hlt1 : w.heap.size < w3.heap.size := (Array.getElem?_eq_some_iff.1 hg3).1
  have hg5 : w5.heap[w.heap.size]? = some (.cells #[sv] 24 (0, 0)) := (hb5.block _ (Nat.lt_of_lt_of_le hlt1 hb4.size)).trans ((hb4.block _ hlt1).trans hg3)
  have hk5 : Keeps w w5 O O := ⟨hbw5.size, fun g hg _ => hbw5.block g hg, fun _ _ h => h⟩
  have hsv5 : RepS w5 O (RepC w5 O gr) l sv := hsv.keep hk5 fun x c h => RepC.keep hk5 _ _ _ h
  refine wpIn_seq (wpIn_seq (Go.wpIn_mono (fm_range hX5 hg5 hsv5 β5 a5 w5 h5) ?_))
  rintro e a6 w6 ⟨σ6, β6, h6, rfl, hf6⟩
  have hb6 := h6.bel.below (plain_R O)
  have hbw6 : Below w.heap.size w w6 := hbw5.trans (below_mono hb6 hbw5.size)
  refine Go.wpIn_mono (fm_loop hO hsv hok hG (b := w3.heap.size) (a := a6) (w := w6) ⟨hbw6, ⟨β6, (h6.fit hf6 (Nat.zero_le _)).rebase rfl rfl ⟨rfl, rfl, rfl, rfl, rfl, trivial⟩ rfl⟩, builder_below hbu5 hb6⟩) ?_
  rintro e a7 w7 ⟨rfl, h7⟩
  exact fm_last hO hok hG h7
end Go.Proofs.YthkhgpbjfcmopaaGreatDoor
