/-
  A region, part by part, some of its operations met by hand: map literals, reads of a map, calls that may panic. No program is read here.
-/
import Derived.Test.YthhphphdbgkdgaaDoorAbsMid
namespace Go.Proofs.YthhphphdbgkdgaaDoor
open Go Go.RowKit
set_option linter.unusedSimpArgs false
set_option linter.unusedVariables false
section
variable {P : Program} {K : Kn} {w0 : World} {X : Ownr} {n : Nat} {σ : AS} {Q : Exit → AS → Prop} {ops : Array Oper}
/-- two lists, one behind the other; the first may be left otherwise -/
theorem wpListIn_join {F : Fence} {m : Nat} {R0 R : Exit → Act → World → Prop} (r : List Oper) (hno : ∀ a w, ¬ R0 .outgrown a w) (hN : ∀ a w, R0 .normal a w → wpListIn F m P ops R r a w) (hE : ∀ e a w, e ≠ .normal → R0 e a w → R e a w) : ∀ (l : List Oper) {a : Act} {w : World}, wpListIn F m P ops R0 l a w → wpListIn F m P ops R (l ++ r) a w
  | [], _, _, h => hN _ _ h
  | o :: l, a, w, h => by
    simp only [List.cons_append, wpListIn] at h ⊢
    split at h
    · rename_i hw
      rw [if_pos hw]
      have h2 := Oper.wpIn_mono (fun a w h => wpListIn_join r hno hN hE l h) h
      refine ⟨h2.1, ?_⟩
      have h3 := h2.2
      revert h3
      generalize (o.semAt F.round a.eval).run P w = x
      intro h3
      cases x with
      | ok x w' =>
        cases x with
        | enter f args =>
          refine ⟨h3.1, h3.2.mono fun e w'' he => ?_⟩
          cases e with
          | returned v => exact he
          | panicked c => exact hE _ _ _ (by intro h; cases h) he
          | outgrown => obtain ⟨_, _, h4⟩ := he; exact (hno _ _ h4).elim
        | round l f tmps assign body =>
          refine ⟨h3.1, h3.2.mono fun e w'' he => ?_⟩
          cases e with
          | returned v => exact he
          | panicked c => exact hE _ _ _ (by intro h; cases h) he
          | outgrown => obtain ⟨_, _, h4⟩ := he; exact (hno _ _ h4).elim
        | _ => exact h3
      | halt x w' =>
        cases x with
        | panic v => exact hE _ _ _ (by intro h; cases h) h3
        | _ => exact h3
    · rename_i hw
      rw [if_neg hw]
      exact ⟨h.1, wpListIn_join r hno hN hE l h.2⟩
/-- from every activation and world that stand for σ these operations come to what Q says -/
def AL (P : Program) (w0 : World) (X : Ownr) (n : Nat) (ops : Array Oper) (l : List Oper) (σ : AS) (Q : Exit → AS → Prop) : Prop :=
  ∀ β a w, Sim w0 X n σ β a w → wpListIn (wideR X.ρ) 0 P ops (fun e a' w' => e ≠ .outgrown ∧ ∃ σ' β', Sim w0 X n σ' β' a' w' ∧ Q e σ') l a w
/-- what follows is walked as it is -/
theorem AL.then {l r : List Oper} {R : Exit → Act → World → Prop} {β : Nat → Value} {a : Act} {w : World} (h : AL P w0 X n ops l σ Q) (hs : Sim w0 X n σ β a w) (hN : ∀ σ' β' a' w', Sim w0 X n σ' β' a' w' → Q .normal σ' → wpListIn (wideR X.ρ) 0 P ops R r a' w') (hE : ∀ e σ' β' a' w', e ≠ .normal → Sim w0 X n σ' β' a' w' → Q e σ' → R e a' w') : wpListIn (wideR X.ρ) 0 P ops R (l ++ r) a w :=
  wpListIn_join r (fun _ _ h => h.1 rfl) (fun a' w' ⟨_, σ', β', h1, h2⟩ => hN σ' β' a' w' h1 h2) (fun e a' w' he ⟨_, σ', β', h1, h2⟩ => hE e σ' β' a' w' he h1 h2) l (h β a w hs)
theorem AL.nil (h : Q .normal σ) : AL P w0 X n ops [] σ Q := fun β a w hs => ⟨(fun h => by cases h), σ, β, hs, h⟩
theorem AL.seq (hX : X.Ok w0) (hK : KnOk P X.G K) (pre : List Oper) {rest : List Oper} {r : List Prop × AS} (hs : aSeq K n ops pre σ = some r) (hp : allP r.1) (h : AL P w0 X n ops rest r.2 Q) (hd : noDefer pre = true := by rfl) : AL P w0 X n ops (pre ++ rest) σ Q :=
  fun β a w hsim => wpListIn_append _ _ (wpListIn_of_wpList not_lets _ hd (aSeq_wp hK hX pre hsim hs hp fun β' a' w' h' => ⟨rfl, h β' a' w' h'⟩))
theorem AL.all (hX : X.Ok w0) (hK : KnOk P X.G K) {l : List Oper} {r : List Prop × AS} (hs : aSeq K n ops l σ = some r) (hp : allP r.1) (hq : Q .normal r.2) (hd : noDefer l = true := by rfl) : AL P w0 X n ops l σ Q := by
  have h := AL.seq (rest := []) (Q := Q) hX hK l hs hp (AL.nil hq) hd
  rwa [List.append_nil] at h
/-- the first k operations -/
theorem AL.take (k : Nat) (hX : X.Ok w0) (hK : KnOk P X.G K) {l : List Oper} {r : List Prop × AS} (hs : aSeq K n ops (l.take k) σ = some r) (hp : allP r.1) (h : AL P w0 X n ops (l.drop k) r.2 Q) (hd : noDefer (l.take k) = true := by rfl) : AL P w0 X n ops l σ Q := by
  have h := AL.seq (Q := Q) hX hK (l.take k) hs hp h hd
  rwa [List.take_append_drop] at h
theorem AWP.list {id : Nat} (h : AL P w0 X n ops ops.toList σ Q) : AWP P w0 X n (.region id ops false) σ Q :=
  fun β a w hsim => Go.wpIn_mono (wpIn_region_list (h β a w hsim)) fun e a w h => h.2
/-- one operation by hand -/
theorem AL.hand {o : Oper} {rest : List Oper} (hgd : o.guard = none) (hnd : ∀ c, o.op ≠ .defer c)
    (h : ∀ β a w, Sim w0 X n σ β a w → o.wp P a w (fun a' w' => ∃ σ' β', Sim w0 X n σ' β' a' w' ∧ AL P w0 X n ops rest σ' Q) (fun e a' w' => e ≠ .outgrown ∧ ∃ σ' β', Sim w0 X n σ' β' a' w' ∧ Q e σ')) : AL P w0 X n ops (o :: rest) σ Q := by
  intro β a w hsim
  refine wpListIn_plain hgd fun K hK => wpIn_of_wp hnd (Oper.wp_mono (fun a' w' ⟨σ', β', h1, h2⟩ => hK a' w' (h2 β' a' w' h1)) (h β a w hsim))
theorem AL.fit {l : List Oper} {σ' : AS} (hf : Fit σ σ') (h : AL P w0 X n ops l σ' Q) (hk : X.K ≤ σ'.nx := by exact Nat.le_of_ble_eq_true rfl) : AL P w0 X n ops l σ Q :=
  fun β a w hs => h β a w (hs.fit hf hk)
end
/-! ### maps -/
section
variable {P : Program} {w : World}
/-- the value at a key, by the machine's own comparison of integers and strings -/
def findP (kd : TypeDesc) (k : Value) : List (Value × Value) → Option (Option Value)
  | [] => some none
  | e :: r => match Instr.sameNow kd k e.1 with
    | some true => some (some e.2)
    | some false => findP kd k r
    | none => none
theorem findNow_P (kd : TypeDesc) (k : Value) : ∀ (ms : List MapEntry) (i : Nat), (Instr.findNow kd k ms i).map (fun o => o.map (·.2)) = findP kd k (ms.map fun e => (e.key, e.val))
  | [], i => rfl
  | e :: r, i => by
    simp only [Instr.findNow, List.map_cons, findP]
    cases Instr.sameNow kd k e.key with
    | none => rfl
    | some b =>
      cases b with
      | true => rfl
      | false => exact findNow_P kd k r (i + 1)
/-- a key's type whose keys are compared at once -/
def plainKey : TypeDesc → Bool
  | .int _ => true
  | .string => true
  | _ => false
theorem run_checkKey_at (b : Bool) {t : TypeId} {kd : TypeDesc} (hk : P.underlying t = some kd) (hp : plainKey kd = true) (v : Value) (m : Nat) : (Instr.checkKey b (m + 1) t v).run P w = .ok () w := by
  cases kd <;> simp [plainKey] at hp <;> simp [Instr.checkKey, run_underlying hk]
theorem run_checkKey (b : Bool) {t : TypeId} {kd : TypeDesc} (hk : P.underlying t = some kd) (hp : plainKey kd = true) (v : Value) : (Instr.checkKey b 10000 t v).run P w = .ok () w := run_checkKey_at b hk hp v 9999
theorem run_getMap {r ck : Nat} {ms : Array MapEntry} (h : w.heap[r]? = some (.map ms ck)) : (getObj r).run P w = .ok (.map ms ck) w := by simp [getObj, Sem.run, h]
theorem run_setMap {r ck : Nat} {ms : Array MapEntry} (o : Obj) (h : w.heap[r]? = some (.map ms ck)) : (setObj r o).run P w = .ok () (w.putObj r o) := by simp [setObj, Sem.run, h, World.putObj]
theorem run_lookup_hit {t kt et : TypeId} {kd : TypeDesc} (hu : P.underlying t = some (.map kt et)) (hk : P.underlying kt = some kd) (hp : plainKey kd = true) {r ck : Nat} {ms : Array MapEntry} (h : w.heap[r]? = some (.map ms ck)) {key v : Value}
    (hf : findP kd key (ms.toList.map fun e => (e.key, e.val)) = some (some v)) : (Instr.lookup t (.map (some r)) key false).run P w = .ok v w := by
  rw [← findNow_P kd key ms.toList 0] at hf
  obtain ⟨o, ho, hf⟩ := Option.map_eq_some_iff.1 hf
  obtain ⟨⟨i, v'⟩, rfl, rfl⟩ := Option.map_eq_some_iff.1 hf
  simp [Instr.lookup, Instr.findKey, run_underlying hu, run_underlying hk, run_getMap h, run_checkKey _ hk hp, ho]
theorem run_insert_new {t kt et : TypeId} {kd : TypeDesc} (hu : P.underlying t = some (.map kt et)) (hk : P.underlying kt = some kd) (hp : plainKey kd = true) {r ck : Nat} {ms : Array MapEntry} (h : w.heap[r]? = some (.map ms ck)) {key v : Value}
    (hf : findP kd key (ms.toList.map fun e => (e.key, e.val)) = some none) : (Instr.mapUpdate t (.map (some r)) key v).run P w = .ok () (w.putObj r (.map (ms.push { key := key, val := v, born := ck }) (ck + 1))) := by
  rw [← findNow_P kd key ms.toList 0] at hf
  obtain ⟨o, ho, hf⟩ := Option.map_eq_some_iff.1 hf
  cases o with
  | some x => cases hf
  | none => simp [Instr.mapUpdate, Instr.findKey, run_underlying hu, run_underlying hk, run_getMap h, run_checkKey _ hk hp, ho, run_setMap _ h]
end
/-- the operations that lay a literal's keys and values -/
def InsL (t : TypeId) (s : Nat) : List (Value × Value) → List Oper → Prop
  | [], l => l = []
  | e :: es, l => ∃ o r ko vo, l = o :: r ∧ o.op = .insert t (.tmp s) ko vo ∧ (∀ a : Act, a.eval ko = e.1) ∧ (∀ a : Act, a.eval vo = e.2) ∧ o.guard = none ∧ o.dst = none ∧ InsL t s es r
theorem InsL.cons {t : TypeId} {s : Nat} {o : Oper} {r : List Oper} {ko vo : Operand} {e : Value × Value} {es : List (Value × Value)} (ho : o.op = .insert t (.tmp s) ko vo) (hk : ∀ a : Act, a.eval ko = e.1) (hv : ∀ a : Act, a.eval vo = e.2) (hg : o.guard = none) (hd : o.dst = none) (h : InsL t s es r) : InsL t s (e :: es) (o :: r) := ⟨o, r, ko, vo, rfl, ho, hk, hv, hg, hd, h⟩
def freshKeys (kd : TypeDesc) : List (Value × Value) → List (Value × Value) → Prop
  | _, [] => True
  | done, e :: r => findP kd e.1 done = some none ∧ freshKeys kd (done ++ [e]) r
section
variable {P : Program} {w0 : World} {X : Ownr} {n : Nat} {σ : AS} {Q : Exit → AS → Prop} {ops : Array Oper}
theorem wp_runU {a : Act} {w w' : World} {o : Oper} {N : Act → World → Prop} {R : Exit → Act → World → Prop} (h : (execOp a.eval o).run P w = .ok .skip w' ∨ ∃ u, (execOp a.eval o).run P w = .ok (.value u) w') (hdst : o.dst = none) (hN : N a w') : o.wp P a w N R := by
  have hput : ∀ u, a.put o.dst u = a := fun u => by rw [hdst]; rfl
  unfold Oper.wp
  rcases h with h | ⟨u, h⟩
  · rw [h]
    show N (a.put o.dst undef) w'
    rw [hput]
    exact hN
  · rw [h]
    show N (a.put o.dst u) w'
    rw [hput]
    exact hN
theorem mapLit_go {t kt et : TypeId} {kd : TypeDesc} (hu : P.underlying t = some (.map kt et)) (hk : P.underlying kt = some kd) (hp : plainKey kd = true) {s r : Nat} {w : World} (hr : w.heap.size ≤ r) {a : Act} (ha : a.tmps.getD s undef = .map (some r)) {rest : List Oper} {ρ : Option Nat} {R : Exit → Act → World → Prop} :
    ∀ (es : List (Value × Value)) (ins : List Oper) (w1 : World) (ms : Array MapEntry) (ck : Nat), InsL t s es ins → freshKeys kd (ms.toList.map fun e => (e.key, e.val)) es → Below w.heap.size w w1 → w1.heap[r]? = some (.map ms ck) →
      (∀ w2 ms' ck', Below w.heap.size w w2 → w2.heap[r]? = some (.map ms' ck') → (ms'.toList.map fun e => (e.key, e.val)) = (ms.toList.map fun e => (e.key, e.val)) ++ es → wpListIn (wideR ρ) 0 P ops R rest a w2) →
      wpListIn (wideR ρ) 0 P ops R (ins ++ rest) a w1
  | [], ins, w1, ms, ck, hi, _, hb, hm, h => by
    have hi : ins = [] := hi
    subst hi
    exact h w1 ms ck hb hm (by simp)
  | e :: es, ins, w1, ms, ck, hi, hf, hb, hm, h => by
    obtain ⟨o, l, ko, vo, rfl, ho, hko, hvo, hg, hd, hi⟩ := hi
    refine wpListIn_plain hg fun K hK => wpIn_of_wp (fun c e' => by rw [ho] at e'; cases e') ?_
    have hrun := run_insert_new hu hk hp hm (key := e.1) (v := e.2) hf.1
    have hlt := (Array.getElem?_eq_some_iff.1 hm).1
    refine wp_runU (w' := w1.putObj r (.map (ms.push { key := e.1, val := e.2, born := ck }) (ck + 1))) ?_ hd (hK _ _ ?_)
    · unfold execOp
      simp only [ho]
      have e1 : a.eval (.tmp s) = .map (some r) := ha
      rw [hko, hvo, e1]
      first
        | exact .inl (by simp [hrun])
        | exact .inr ⟨_, by simp [hrun]⟩
    · refine mapLit_go hu hk hp hr ha es l _ _ _ hi ?_ (hb.grown (grownBy_putObj' w1 r _) hb.size (fun k e => by cases e; exact hr)) (World.putObj_heap_same hlt) ?_
      · rw [Array.toList_push, List.map_append]
        exact hf.2
      · intro w2 ms' ck' h1 h2 h3
        refine h w2 ms' ck' h1 h2 ?_
        rw [h3, Array.toList_push, List.map_append, List.append_assoc]
        rfl
/-- a map literal -/
theorem AL.mapLit (hX : X.Ok w0) {t kt et : TypeId} {kd : TypeDesc} (hu : P.underlying t = some (.map kt et)) (hk : P.underlying kt = some kd) (hp : plainKey kd = true) {o : Oper} {ins rest : List Oper} {d : Nat} (es : List (Value × Value)) (ho : o.op = .makeMap t none) (hg : o.guard = none) (hdst : o.dst = some d) (hd : Nat.blt d n = true)
    (hi : InsL t d es ins) (hf : freshKeys kd [] es) (h : AL P w0 X n ops rest ⟨(d, ⟨.mapL, es⟩) :: σ.F, σ.E, σ.nx⟩ Q) : AL P w0 X n ops (o :: (ins ++ rest)) σ Q := by
  intro β a w hs
  have hd' : d < n := by simpa using hd
  refine wpListIn_plain hg fun K hK => wpIn_of_wp (fun c e' => by rw [ho] at e'; cases e') (wp_run (u := .map (some w.heap.size)) (w' := w.alloc (.map #[] 0)) ?_ (hK _ _ ?_))
  · unfold execOp
    simp only [ho]
    exact run_v rfl
  · rw [hdst]
    refine mapLit_go hu hk hp (w := w) (r := w.heap.size) (Nat.le_refl _) (by rw [Act.put_get (by rw [hs.sz]; exact hd'), if_pos rfl]) es ins _ #[] 0 hi hf (below_alloc w _) (World.alloc_heap_new w _) ?_
    intro w2 ms ck h1 h2 h3
    exact h _ _ _ (hs.put h1 (v := ⟨.mapL, es⟩) ⟨w.heap.size, ms, ck, rfl, (Array.getElem?_eq_some_iff.1 h2).1, fun hO => absurd (hs.hO hX _ hO) (Nat.lt_irrefl _), h2, by rw [h3]; rfl⟩ (Nat.zero_le _) hd')
/-- a read of a map -/
theorem AL.look {t kt et : TypeId} {kd : TypeDesc} (hu : P.underlying t = some (.map kt et)) (hk : P.underlying kt = some kd) (hp : plainKey kd = true) {o : Oper} {rest : List Oper} {m k : Operand} {d : Nat} {es : List (Value × Value)} {key v : Value} (V : V) (ho : o.op = .lookup t m k false) (hg : o.guard = none) (hdst : o.dst = some d) (hd : Nat.blt d n = true)
    (hm : evO σ.F m = ⟨.mapL, es⟩) (hkey : ∀ β a w, Sim w0 X n σ β a w → a.eval k = key) (hf : findP kd key es = some (some v)) (hV : ∀ w O β, RepV w O β V.t V.x v) (hb : V.bound = 0) (h : AL P w0 X n ops rest ⟨(d, V) :: σ.F, σ.E, σ.nx⟩ Q) : AL P w0 X n ops (o :: rest) σ Q := by
  refine AL.hand hg (fun c e' => by rw [ho] at e'; cases e') fun β a w hs => ?_
  have hd' : d < n := by simpa using hd
  have h1 := hs.ops m
  rw [hm] at h1
  obtain ⟨r, ms, ck, h2, _, _, h3, h4⟩ := h1
  refine wp_run (u := v) (w' := w) ?_ ?_
  · unfold execOp
    simp only [ho]
    rw [h2, hkey β a w hs]
    exact run_v (run_lookup_hit hu hk hp h3 (by rw [h4]; exact hf))
  · rw [hdst]
    exact ⟨_, β, hs.put (Below.refl _ _) (v := V) (hV _ _ _) (by rw [hb]; exact Nat.zero_le _) hd', h⟩
theorem key_int {k : Operand} {x : Int} (hk : evO σ.F k = ⟨.int .i64, x⟩) : ∀ β a w, Sim w0 X n σ β a w → a.eval k = .int .i64 x := fun β a w hs => by
  have h1 := hs.ops k
  rw [hk] at h1
  exact RepV.int h1
theorem key_str {k : Operand} {x : List UInt8} (hk : evO σ.F k = ⟨.str, x⟩) : ∀ β a w, Sim w0 X n σ β a w → a.eval k = .string ⟨x.toArray⟩ := fun β a w hs => by
  have h1 := hs.ops k
  rw [hk] at h1
  exact (RepV.str h1).1
end
end Go.Proofs.YthhphphdbgkdgaaDoor
