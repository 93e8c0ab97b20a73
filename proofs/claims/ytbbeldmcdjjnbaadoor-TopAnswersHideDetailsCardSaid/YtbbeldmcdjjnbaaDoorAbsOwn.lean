/-
  Functions that write a variable which they were handed by its address and which holds a slice of its own, or panic. No program is read here.
-/
import Derived.Test.YtbbeldmcdjjnbaaDoorAbsRun
namespace Go.Proofs.YtbbeldmcdjjnbaaDoor
open Go Go.RowKit
set_option linter.unusedSimpArgs false
set_option linter.unusedVariables false
/-- leaves that hold no handles -/
def Ty.leafD : Ty → Bool
  | .pair a b => a.leafD && b.leafD
  | .vptr t => t.data
  | .arr _ _ => false
  | t => t.data
/-- what such a function does: self: the variable's plain type, k: the cell that holds its slice, sl: that slice's elements -/
structure HCtr where
  self : Ty
  k : Nat
  te : TypeId
  et : Ty
  sl : self.T → List et.T
  args : List Ty
  inv : World → (Nat → Prop) → Prop
  pre : self.T → Args args → List Prop
  res : Ty
  out : self.T → Args args → Except Value (res.T × self.T)
def HCtr.lv (c : HCtr) (j : Nat) (x : c.self.T) : List V := (leavesT c.self x).set c.k ⟨.obuf c.et, j⟩
def HCtr.law (c : HCtr) : Prop := c.self.leafD = true ∧ ∀ x, (leavesT c.self x)[c.k]? = some ⟨.slice c.et, c.sl x⟩
def oset2 (O : Nat → Prop) (g : Nat) (b : Value) (h : Nat) : Prop := (O h ∨ h = g) ∨ blockOf b = some h
def beta2 (g : Nat) (b : Value) (i : Nat) : Value := if i = 0 then .pointer (some ⟨g, 0, none⟩) else b
def HEnd (c : HCtr) (w w' : World) (O : Nat → Prop) (g : Nat) (b : Value) (e : Ending) : Except Value (c.res.T × c.self.T) → Prop
  | .ok (y, x') => ∃ v cs' ty' b', e = .returned v ∧ w'.heap[g]? = some (.cells (List.toArray cs') ty' (0, 0)) ∧ RepH w' (oset2 O g b') (beta2 g b') (c.lv 1 x') cs' ∧ OwnRep w' (oset2 O g b') (beta2 g b') 0 b' (.buf c.te c.et (c.sl x')) ∧
      blockOf b' ≠ some g ∧ (∀ h, blockOf b' = some h → blockOf b = some h ∨ w.heap.size ≤ h) ∧ (c.res = .unit ∨ ResRel w' O w.heap.size none c.res y v)
  | .error pv => e = .panicked [{ v := pv, recovered := false }]
def HCtrOk (P : Program) (G : World → Prop) (f : FuncId) (c : HCtr) : Prop :=
  (∀ (as : Array Value) (w : World), (callFunc f as).run P w = .ok (.enter f as) w) ∧ c.law ∧
  ∀ (w : World) (O : Nat → Prop) (g : Nat) (cs : List Value) (ty : TypeId) (x : c.self.T) (xs : Args c.args) (vs : List Value) (b : Value), (∀ h, O h → h < w.heap.size ∧ h ≠ g ∧ blockOf b ≠ some h) → blockOf b ≠ some g → w.heap[g]? = some (.cells cs.toArray ty (0, 0)) →
    RepH w (oset2 O g b) (beta2 g b) (c.lv 1 x) cs → OwnRep w (oset2 O g b) (beta2 g b) 0 b (.buf c.te c.et (c.sl x)) → RepA w (oset2 O g b) c.args xs vs → allP (c.pre x xs) → c.inv w (fun h => h = g ∨ blockOf b = some h) → G w →
    Calls P f (Value.pointer (some ⟨g, 0, none⟩) :: vs).toArray w fun e w' => Kept (fun h => h = g ∨ blockOf b = some h) w w' ∧ HEnd c w w' O g b e (c.out x xs)
/-- the variable's plain value out of its cells -/
def unH (c : HCtr) (vs : List V) (E : Owns) (x : c.self.T) : Prop := ∃ et j xs, vs[c.k]? = some ⟨.obuf et, j⟩ ∧ Owns.get E j = some (.buf c.te c.et xs) ∧ unD c.self (vs.set c.k ⟨.slice c.et, xs⟩) = some (x, [])
/-- what its walk must leave -/
def HDone (T : Tbl) (rs : List ResultVar) (c : HCtr) (e : Exit) (σ : AS) : Except Value (c.res.T × c.self.T) → Prop
  | .ok (y, x') => (e = .normal ∨ e = .ret) ∧ (∃ vs, Owns.get σ.E 0 = some (.hbox vs) ∧ unH c vs σ.E x') ∧ Done T rs σ none c.res y
  | .error pv => e = .panic [{ v := pv, recovered := false }]

theorem leafD_bound : ∀ (t : Ty) (x : t.T), t.leafD = true → ∀ v ∈ leavesT t x, v.bound = 0 := by
  intro t
  induction t with
  | pair a b iha ihb =>
    intro x h v hv
    have h : (a.leafD && b.leafD) = true := h
    rw [Bool.and_eq_true] at h
    rcases List.mem_append.1 (show v ∈ leavesT a x.1 ++ leavesT b x.2 from hv) with hv | hv
    · exact iha _ h.1 v hv
    · exact ihb _ h.2 v hv
  | unit => intro x h v hv; cases hv
  | arr n t _ => intro x h; cases h
  | bool => intro x _ v hv; rw [List.mem_singleton.1 hv]; rfl
  | int k => intro x _ v hv; rw [List.mem_singleton.1 hv]; rfl
  | str => intro x _ v hv; rw [List.mem_singleton.1 hv]; rfl
  | slice t _ => intro x _ v hv; rw [List.mem_singleton.1 hv]; rfl
  | vptr t _ => intro x _ v hv; rw [List.mem_singleton.1 hv]; rfl
  | _ => intro x h; cases h
/-- such a leaf means the same whatever the handles -/
def Ty.plainL : Ty → Bool
  | .vptr t => t.data
  | t => t.data
theorem leafD_plain : ∀ (t : Ty) (x : t.T), t.leafD = true → ∀ v ∈ leavesT t x, v.t.plainL = true := by
  intro t
  induction t with
  | pair a b iha ihb =>
    intro x h v hv
    have h : (a.leafD && b.leafD) = true := h
    rw [Bool.and_eq_true] at h
    rcases List.mem_append.1 (show v ∈ leavesT a x.1 ++ leavesT b x.2 from hv) with hv | hv
    · exact iha _ h.1 v hv
    · exact ihb _ h.2 v hv
  | unit => intro x h v hv; cases hv
  | arr n t _ => intro x h; cases h
  | bool => intro x h v hv; rw [List.mem_singleton.1 hv]; exact h
  | int k => intro x h v hv; rw [List.mem_singleton.1 hv]; exact h
  | str => intro x h v hv; rw [List.mem_singleton.1 hv]; exact h
  | slice t _ => intro x h v hv; rw [List.mem_singleton.1 hv]; exact h
  | vptr t _ => intro x h v hv; rw [List.mem_singleton.1 hv]; exact h
  | _ => intro x h; cases h
theorem RepV.plainL {w w' : World} {O O' : Nat → Prop} {β β' : Nat → Value} (hk : Keeps w w' O O') : ∀ {t : Ty} {x : t.T} {u : Value}, t.plainL = true → RepV w O β t x u → RepV w' O' β' t x u := by
  intro t x u ht h
  cases t with
  | vptr t => exact RepV.keep (β := β) hk (.vptr t) x u h
  | _ => first | (cases ht; done) | (exact (repV_data ht).2 (RepD.keep hk ((repV_data ht).1 h)))
theorem RepH.conv {w w' : World} {O O' : Nat → Prop} {β β' : Nat → Value} : ∀ {vs vs' : List V} {cs : List Value}, vs.length = vs'.length → (∀ (i : Nat) (v v' : V), vs[i]? = some v → vs'[i]? = some v' → ∀ u, RepV w O β v.t v.x u → RepV w' O' β' v'.t v'.x u) → RepH w O β vs cs → RepH w' O' β' vs' cs
  | [], [], _, _, _, h => h
  | [], _ :: _, _, hl, _, _ => by cases hl
  | _ :: _, [], _, hl, _, _ => by cases hl
  | v :: r, v' :: r', _, hl, hc, ⟨u, s, h1, h2, h3, h4⟩ => ⟨u, s, h1, h2, hc 0 v v' rfl rfl u h3, RepH.conv (Nat.succ.inj hl) (fun i v v' h h' => hc (i + 1) v v' h h') h4⟩
theorem unD_rel : ∀ (t : Ty) (l r : List V) (x : t.T), t.leafD = true → unD t l = some (x, r) → ∃ l1, l = l1 ++ r ∧ l1.length = (leavesT t x).length ∧ ∀ (i : Nat) (v v' : V), l1[i]? = some v → (leavesT t x)[i]? = some v' → coe v'.t v = some v'.x := by
  intro t
  induction t with
  | pair a b iha ihb =>
    intro l r x ht h
    have ht : (a.leafD && b.leafD) = true := ht
    rw [Bool.and_eq_true] at ht
    simp only [unD] at h
    split at h <;> first | (cases h; done) | skip
    rename_i y r1 h1
    split at h <;> first | (cases h; done) | skip
    rename_i z r2 h2
    cases h
    obtain ⟨l1, e1, n1, c1⟩ := iha _ _ _ ht.1 h1
    obtain ⟨l2, e2, n2, c2⟩ := ihb _ _ _ ht.2 h2
    refine ⟨l1 ++ l2, by rw [e1, e2, List.append_assoc], by show (l1 ++ l2).length = (leavesT a y ++ leavesT b z).length; rw [List.length_append, List.length_append, n1, n2], fun i v v' hv hv' => ?_⟩
    have hv' : (leavesT a y ++ leavesT b z)[i]? = some v' := hv'
    by_cases hi : i < l1.length
    · rw [List.getElem?_append_left hi] at hv
      rw [List.getElem?_append_left (by omega)] at hv'
      exact c1 i v v' hv hv'
    · rw [List.getElem?_append_right (by omega)] at hv
      rw [List.getElem?_append_right (by omega)] at hv'
      rw [n1] at hv
      exact c2 _ v v' hv hv'
  | unit => intro l r x _ h; cases h; exact ⟨[], rfl, rfl, fun i v v' hv => by simp at hv⟩
  | arr n t _ => intro l r x ht; cases ht
  | _ =>
    intro l r x ht h
    first
      | (cases ht; done)
      | (cases l with
         | nil => cases h
         | cons v l =>
           simp only [unD] at h
           split at h <;> first | (cases h; done) | skip
           rename_i y hy
           cases h
           refine ⟨[v], rfl, rfl, fun i a b ha hb => ?_⟩
           cases i with
           | zero =>
             cases ha
             cases hb
             exact hy
           | succ i => simp at ha)
/-- cells, one by one, and the plain value that they make -/
theorem unH_conv {c : HCtr} (hc : c.law) {vs : List V} {E : Owns} {x : c.self.T} (h : unH c vs E x) : ∃ et j, vs[c.k]? = some ⟨.obuf et, j⟩ ∧ Owns.get E j = some (.buf c.te c.et (c.sl x)) ∧ vs.length = (leavesT c.self x).length ∧
    ∀ (i : Nat) (v v' : V), i ≠ c.k → vs[i]? = some v → (leavesT c.self x)[i]? = some v' → coe v'.t v = some v'.x ∧ v'.t.plainL = true := by
  obtain ⟨et, j, xs, h1, h2, h3⟩ := h
  obtain ⟨l1, e1, n1, c1⟩ := unD_rel _ _ _ _ hc.1 h3
  rw [List.append_nil] at e1
  subst e1
  have hk := (List.getElem?_eq_some_iff.1 h1).1
  have hx : xs = c.sl x := by
    have h4 := c1 c.k ⟨.slice c.et, xs⟩ _ (by rw [List.getElem?_set_self hk]) (hc.2 x)
    rcases coe_spec h4 with h5 | ⟨h5, _⟩
    · cases h5; rfl
    · cases h5
  refine ⟨et, j, h1, hx ▸ h2, by rw [← n1, List.length_set], fun i v v' hi hv hv' => ⟨c1 i v v' (by rw [List.getElem?_set_ne (Ne.symm hi)]; exact hv) hv', leafD_plain _ _ hc.1 v' (List.mem_of_getElem? hv')⟩⟩
theorem lv_get (c : HCtr) {j i : Nat} {x : c.self.T} {v : V} (h : (c.lv j x)[i]? = some v) : (i = c.k ∧ v = ⟨.obuf c.et, j⟩) ∨ (i ≠ c.k ∧ (leavesT c.self x)[i]? = some v) := by
  by_cases hi : i = c.k
  · subst hi
    have hl : c.k < (leavesT c.self x).length := by
      have := (List.getElem?_eq_some_iff.1 h).1
      simpa [HCtr.lv] using this
    unfold HCtr.lv at h
    rw [List.getElem?_set_self hl] at h
    exact .inl ⟨rfl, (Option.some.inj h).symm⟩
  · unfold HCtr.lv at h
    rw [List.getElem?_set_ne (Ne.symm hi)] at h
    exact .inr ⟨hi, h⟩
theorem lv_len (c : HCtr) (j : Nat) (x : c.self.T) : (c.lv j x).length = (leavesT c.self x).length := by unfold HCtr.lv; rw [List.length_set]
theorem lv_under {c : HCtr} (hc : c.law) {j m : Nat} (hj : j < m) (x : c.self.T) : ∀ v ∈ c.lv j x, v.bound ≤ m := by
  intro v hv
  obtain ⟨i, hi⟩ := List.mem_iff_getElem?.1 hv
  rcases lv_get c hi with ⟨_, rfl⟩ | ⟨_, h⟩
  · exact hj
  · rw [leafD_bound _ _ hc.1 v (List.mem_of_getElem? h)]; exact Nat.zero_le _
/-- from the walk's cells to the contract's -/
theorem RepH.toLv {c : HCtr} (hc : c.law) {w w' : World} {O O' : Nat → Prop} {β β' : Nat → Value} {vs : List V} {E : Owns} {x : c.self.T} {cs : List Value} {j1 : Nat} (hk : Keeps w w' O O') (h : unH c vs E x) (hr : RepH w O β vs cs)
    (hb : ∀ j et, vs[c.k]? = some ⟨.obuf et, j⟩ → β' j1 = β j) : RepH w' O' β' (c.lv j1 x) cs := by
  obtain ⟨et, j, h1, h2, h3, h4⟩ := unH_conv hc h
  refine RepH.conv (by rw [lv_len]; exact h3) (fun i v v' hv hv' u hu => ?_) hr
  rcases lv_get c hv' with ⟨rfl, rfl⟩ | ⟨hi, hl⟩
  · rw [h1] at hv
    cases hv
    have hu : u = β j := hu
    show u = β' j1
    rw [hu, hb j et h1]
  · obtain ⟨h5, h6⟩ := h4 i v v' hi hv hl
    exact RepV.plainL (β := β) hk h6 (coe_repV h5 hu)
/-- the contract's cells under other handles -/
theorem RepH.lvLv {c : HCtr} (hc : c.law) {w w' : World} {O O' : Nat → Prop} {β β' : Nat → Value} {x : c.self.T} {cs : List Value} {j j1 : Nat} (hk : Keeps w w' O O') (hr : RepH w O β (c.lv j x) cs) (hb : β' j1 = β j) : RepH w' O' β' (c.lv j1 x) cs := by
  refine RepH.conv (by rw [lv_len, lv_len]) (fun i v v' hv hv' u hu => ?_) hr
  rcases lv_get c hv' with ⟨rfl, rfl⟩ | ⟨hi, hl⟩
  · rcases lv_get c hv with ⟨_, rfl⟩ | ⟨hi, _⟩
    · have hu : u = β j := hu
      show u = β' j1
      rw [hu, hb]
    · exact absurd rfl hi
  · rcases lv_get c hv with ⟨hi', _⟩ | ⟨_, hl'⟩
    · exact absurd hi' hi
    · rw [hl] at hl'
      cases hl'
      exact RepV.plainL (β := β) hk (leafD_plain _ _ hc.1 _ (List.mem_of_getElem? hl)) hu
section
variable {P : Program} {K : Kn} {n : Nat}
def initH (c : HCtr) (x : c.self.T) (xs : Args c.args) : AS := ⟨(0, ⟨.hptr, ((0 : Nat), (0 : Nat))⟩) :: initF c.args xs 1, [(0, some (.hbox (c.lv 1 x))), (1, some (.buf c.te c.et (c.sl x)))], 2⟩
abbrev Ownr.own1 (G : World → Prop) (O : Nat → Prop) (g : Nat) (b : Value) : Ownr := ⟨G, O, 1, fun _ => g, [], none, fun h => blockOf b = some h⟩
theorem own1_R (G : World → Prop) (O : Nat → Prop) (g : Nat) (b : Value) : ∀ h, (Ownr.own1 G O g b).R h ↔ (h = g ∨ blockOf b = some h) := fun h =>
  ⟨fun hh => hh.elim (fun ⟨i, _, e⟩ => .inl e.symm) .inr, fun hh => hh.elim (fun e => .inl ⟨0, Nat.lt_succ_self 0, e.symm⟩) .inr⟩
theorem hctr_of_awp {G : World → Prop} (hK : KnOk P G K) {f : FuncId} {fn : Func} {c : Code} {ctr : HCtr} (hf : P.funcs[f]? = some fn) (hb : fn.body = some c) (hn : fn.ntmps = n) (hlaw : ctr.law)
    (hen : ∀ (as : Array Value) (w : World), (callFunc f as).run P w = .ok (.enter f as) w) (hd : allData ctr.args = true) (hlen : ctr.args.length + 1 ≤ n) (hst : ∀ w w' R, ctr.inv w R → G w → Kept R w w' → G w')
    (h : ∀ (w0 : World) (X : Ownr), X.Ok w0 → X.G = G → X.K = 1 → X.ρ = none → X.D = [] → ctr.inv w0 X.R → ∀ (x : ctr.self.T) (xs : Args ctr.args), allP (ctr.pre x xs) →
      AWP P w0 X n c (initH ctr x xs) (fun e σ => HDone K.T fn.results.toList ctr e σ (ctr.out x xs))) : HCtrOk P G f ctr := by
  refine ⟨hen, hlaw, fun w O g cs ty x xs vs b hO hgb hg hx hbuf hrep hp hinv hG => calls_of_wp hf hb ?_⟩
  have hvl := repA_len _ _ _ hrep
  have hgl := (Array.getElem?_eq_some_iff.1 hg).1
  have hbl : ∀ h, blockOf b = some h → h < w.heap.size := fun h hh => (hbuf.block_lt hh).2
  obtain ⟨X, hXd⟩ : ∃ X : Ownr, X = Ownr.own1 G O g b := ⟨_, rfl⟩
  have hXR : ∀ h, X.R h ↔ (h = g ∨ blockOf b = some h) := by rw [hXd]; exact own1_R _ _ _ _
  have hXX : X.X = O := by rw [hXd]
  have hXG : X.G = G := by rw [hXd]
  have hX : X.Ok w := ⟨fun h hh => by
      rw [hXX] at hh
      exact ⟨(hO h hh).1, fun e => ((hXR h).1 e).elim (hO h hh).2.1 (hO h hh).2.2⟩, fun h e => ((hXR h).1 e).elim (fun e => e ▸ hgl) (hbl h), fun w' hk => by
      rw [hXG]
      exact hst w w' _ hinv hG ⟨hk.os, hk.tape, hk.output, hk.size, fun k hkl hr => hk.block k hkl fun hr' => hr ((hXR k).1 hr')⟩⟩
  have hE : OSet X (initH ctr x xs).E (beta2 g b) = oset2 O g b := by
    funext k
    apply propext
    constructor
    · rintro (h | ⟨i, o, hi, h⟩)
      · rw [hXX] at h
        exact .inl (.inl h)
      · unfold beta2 at h
        by_cases h0 : i = 0
        · rw [if_pos h0] at h
          exact .inl (.inr (Option.some.inj h).symm)
        · rw [if_neg h0] at h
          exact .inr h
    · rintro ((h | h) | h)
      · exact .inl (by rw [hXX]; exact h)
      · exact .inr ⟨0, _, rfl, by rw [h]; rfl⟩
      · exact .inr ⟨1, _, rfl, h⟩
  have hget : ∀ i o, Owns.get (initH ctr x xs).E i = some o → (i = 0 ∧ o = .hbox (ctr.lv 1 x)) ∨ (i = 1 ∧ o = .buf ctr.te ctr.et (ctr.sl x)) := fun i o h => by
    rw [show (initH ctr x xs).E = [(0, some (.hbox (ctr.lv 1 x))), (1, some (.buf ctr.te ctr.et (ctr.sl x)))] from rfl, Owns.get_cons, Owns.get_cons] at h
    by_cases hi : 0 = i
    · rw [if_pos hi] at h; cases h; exact .inl ⟨hi.symm, rfl⟩
    · rw [if_neg hi] at h
      by_cases hi : 1 = i
      · rw [if_pos hi] at h; cases h; exact .inr ⟨hi.symm, rfl⟩
      · rw [if_neg hi] at h; cases h
  have hsim : Sim w X n (initH ctr x xs) (beta2 g b) { tmps := (Value.pointer (some ⟨g, 0, none⟩) :: vs).toArray ++ Array.replicate (fn.ntmps - (Value.pointer (some ⟨g, 0, none⟩) :: vs).toArray.size) undef, defers := [] } w := by
    refine ⟨by simp [hn, hvl]; omega, by rw [hXd], Kept.refl _ _, fun s => ?_, fun i o h => ?_, fun i o k h hk => ?_, fun i j oi oj h h' hne k hk hk' => ?_, fun i o h => ?_, ⟨by rw [hXd]; exact Nat.le_succ 1, fun i hi => ?_⟩, fun s => ?_, fun i o h => ?_⟩
    · rw [hE]
      have e : ((Value.pointer (some ⟨g, 0, none⟩) :: vs).toArray ++ Array.replicate (fn.ntmps - (Value.pointer (some ⟨g, 0, none⟩) :: vs).toArray.size) undef) = ([Value.pointer (some ⟨g, 0, none⟩)] ++ vs ++ List.replicate (fn.ntmps - (vs.length + 1)) undef).toArray := by simp
      show RepV w _ _ _ _ (((Value.pointer (some ⟨g, 0, none⟩) :: vs).toArray ++ Array.replicate (fn.ntmps - (Value.pointer (some ⟨g, 0, none⟩) :: vs).toArray.size) undef).getD s undef)
      rw [e]
      have := initF_rep (β := beta2 g b) ctr.args xs vs [Value.pointer (some ⟨g, 0, none⟩)] (List.replicate (fn.ntmps - (vs.length + 1)) undef) hd hrep s
      have key : ∀ u : Value, RepV w (oset2 O g b) (beta2 g b) (Frame.get ((0, ⟨.hptr, ((0 : Nat), (0 : Nat))⟩) :: initF ctr.args xs 1) s).t (Frame.get ((0, ⟨.hptr, ((0 : Nat), (0 : Nat))⟩) :: initF ctr.args xs 1) s).x u = RepV w (oset2 O g b) (beta2 g b) (if 0 = s then (⟨.hptr, ((0 : Nat), (0 : Nat))⟩ : V) else Frame.get (initF ctr.args xs 1) s).t (if 0 = s then (⟨.hptr, ((0 : Nat), (0 : Nat))⟩ : V) else Frame.get (initF ctr.args xs 1) s).x u := fun u => by
        rw [← Frame.get_cons]
      refine (key _).mpr ?_
      by_cases hs : 0 = s
      · rw [if_pos hs]
        subst hs
        exact ⟨g, rfl, by simp [Array.getD]⟩
      · rw [if_neg hs]
        exact this
    · rw [hE]
      rcases hget i o h with ⟨rfl, rfl⟩ | ⟨rfl, rfl⟩
      · exact ⟨g, cs, ty, rfl, Nat.zero_le _, hg, hx⟩
      · exact hbuf
    · refine .inr ((hXR k).2 ?_)
      rcases hget i o h with ⟨rfl, _⟩ | ⟨rfl, _⟩
      · exact .inl (Option.some.inj hk).symm
      · exact .inr hk
    · rcases hget i oi h with ⟨rfl, _⟩ | ⟨rfl, _⟩ <;> rcases hget j oj h' with ⟨rfl, _⟩ | ⟨rfl, _⟩
      · exact hne rfl
      · have hk : some g = some k := hk
        exact hgb (by rw [hk]; exact hk')
      · have hk' : some g = some k := hk'
        exact hgb (by rw [hk']; exact hk)
      · exact hne rfl
    · rcases hget i o h with ⟨rfl, _⟩ | ⟨rfl, _⟩
      · exact Nat.zero_lt_succ 1
      · exact Nat.lt_succ_self 1
    · rw [hXd] at hi ⊢
      have hi : i = 0 := by have : i < 1 := hi; omega
      subst hi
      refine ⟨rfl, fun o ho => ?_⟩
      rcases hget 0 o ho with ⟨_, rfl⟩ | ⟨h, _⟩
      · rfl
      · cases h
    · show (Frame.get ((0, ⟨.hptr, ((0 : Nat), (0 : Nat))⟩) :: initF ctr.args xs 1) s).bound ≤ 2
      rw [Frame.get_cons]
      by_cases hs : 0 = s
      · rw [if_pos hs]; exact Nat.le_succ 1
      · rw [if_neg hs, initF_bound _ _ _ _ hd]
        exact Nat.zero_le _
    · rcases hget i o h with ⟨_, rfl⟩ | ⟨_, rfl⟩
      · intro vs e v hv
        cases e
        exact lv_under hlaw (Nat.lt_succ_self 1) x v hv
      · intro vs e; cases e
  have hinv' : ctr.inv w X.R := by
    rw [show X.R = fun h => h = g ∨ blockOf b = some h from funext fun h => propext (hXR h)]
    exact hinv
  have hw := h w X hX hXG (by rw [hXd]) (by rw [hXd]) (by rw [hXd]) hinv' x xs hp _ _ _ hsim
  rw [show X.ρ = none by rw [hXd]] at hw
  refine wp_mono (wpIn_wide.1 hw) fun e a' w' ⟨σ', β', h1, h2⟩ => ?_
  have hbk : Kept (fun h => h = g ∨ blockOf b = some h) w w' := ⟨h1.bel.os, h1.bel.tape, h1.bel.output, h1.bel.size, fun k hk hr => h1.bel.block k hk fun hr' => hr ((hXR k).1 hr')⟩
  have hdf : a'.defers = [] := by rw [h1.df, hXd]
  revert h2
  cases ho : ctr.out x xs with
  | error pv =>
    rintro rfl
    exact ⟨hdf, hbk, rfl⟩
  | ok p =>
    obtain ⟨y, x'⟩ := p
    rintro ⟨h2, ⟨ws, h6, h7⟩, h3⟩
    obtain ⟨et', j, k1, k2, _, _⟩ := unH_conv hlaw h7
    obtain ⟨g', cs', ty', hb1, _, hb3, hb4⟩ := h1.own 0 _ h6
    have hb5 := (h1.fix.2 0 (by rw [hXd]; exact Nat.lt_succ_self 0)).1
    rw [hb1] at hb5
    have hgg : g' = g := by
      have h : some g' = some (X.fix 0) := hb5
      rw [hXd] at h
      exact Option.some.inj h
    subst hgg
    have hj := h1.own j _ k2
    have hne : (0 : Nat) ≠ j := fun e => by rw [← e, h6] at k2; cases k2
    have hsub : ∀ k, oset2 O g' (β' j) k → OSet X σ'.E β' k := fun k hk => by
      rcases hk with (hk | hk) | hk
      · exact .inl (by rw [hXX]; exact hk)
      · exact .inr ⟨0, _, h6, by rw [hb1, hk]; rfl⟩
      · exact .inr ⟨j, _, k2, hk⟩
    have hkp : Keeps w' w' (OSet X σ'.E β') (oset2 O g' (β' j)) := ⟨Nat.le_refl _, fun _ _ _ => rfl, fun k _ hk => hsub k hk⟩
    have hlvr : RepH w' (oset2 O g' (β' j)) (beta2 g' (β' j)) (ctr.lv 1 x') cs' := RepH.toLv hlaw hkp h7 hb4 fun j' et'' hj' => by
      rw [k1] at hj'
      cases hj'
      rfl
    have hbr : OwnRep w' (oset2 O g' (β' j)) (beta2 g' (β' j)) 0 (β' j) (.buf ctr.te ctr.et (ctr.sl x')) := hj.keep hkp fun _ _ => rfl
    have hnew : ∀ h, blockOf (β' j) = some h → blockOf b = some h ∨ w.heap.size ≤ h := fun h hh => by
      rcases h1.new j _ h k2 hh with h8 | h8
      · exact .inr h8
      · rcases (hXR h).1 h8 with rfl | h8
        · exact absurd hh (h1.inj 0 j _ _ h6 k2 hne h (by rw [hb1]; rfl))
        · exact .inl h8
    have hng : blockOf (β' j) ≠ some g' := h1.inj 0 j _ _ h6 k2 hne g' (by rw [hb1]; rfl)
    obtain ⟨v, h4, h5⟩ := done_res (X := X) (by rw [hXG]; exact hK) hX h1.seen h3 (.inl rfl)
    rw [hXX] at h5
    rcases h2 with rfl | rfl
    · exact ⟨hdf, v, h4, hbk, v, cs', ty', _, rfl, hb3, hlvr, hbr, hng, hnew, h5⟩
    · exact ⟨hdf, v, h4, hbk, v, cs', ty', _, rfl, hb3, hlvr, hbr, hng, hnew, h5⟩
end
/-! ### the call -/
section
variable {w0 w w' : World} {X : Ownr} {n : Nat} {σ : AS} {β : Nat → Value} {a : Act}
/-- the i-th is made anew, no slot takes it -/
theorem Sim.redo0 (h : Sim w0 X n σ β a w) {i : Nat} {o o' : OObj} (hi : Owns.get σ.E i = some o) (hbuf : o.isBuf = true) (hg : w.grownBy w' (blockOf (β i))) {bv : Value}
    (hbv : ∀ g, blockOf bv = some g → blockOf (β i) = some g ∨ w.heap.size ≤ g)
    (hr : OwnRep w' (OSet X ((i, some o') :: Owns.kill i σ.E) (fun j => if j = i then bv else β j)) (fun j => if j = i then bv else β j) 0 bv o') (hu : o'.under σ.nx := by exact fun _ e => by cases e) :
    Sim w0 X n { F := Frame.kill i σ.F, E := (i, some o') :: Owns.kill i σ.E, nx := σ.nx } (fun j => if j = i then bv else β j) a w' := by
  have hO : ∀ g, g < w.heap.size → OSet X ((i, some o') :: Owns.kill i σ.E) (fun j => if j = i then bv else β j) g → OSet X σ.E β g := fun g hgl hg' => by
    rcases hg' with h1 | ⟨j, oj, h1, h2⟩
    · exact .inl h1
    · rw [Owns.get_cons] at h1
      by_cases hj : i = j
      · subst hj
        simp at h2
        rcases hbv g h2 with h3 | h3
        · exact .inr ⟨i, o, hi, h3⟩
        · omega
      · rw [if_neg hj, Owns.get_kill] at h1
        obtain ⟨pj, hp1, hp2⟩ := Option.map_eq_some_iff.1 h1
        simp [Ne.symm hj] at h2
        exact .inr ⟨j, pj, hp1, h2⟩
  have hkeep : Keeps w w' (OSet X σ.E β) (OSet X ((i, some o') :: Owns.kill i σ.E) (fun j => if j = i then bv else β j)) :=
    ⟨hg.size, fun g hgl hgo => hg.block g hgl fun e => hgo (.inr ⟨i, o, hi, e.symm⟩), hO⟩
  have hold : ∀ {j : Nat} {oj : OObj}, i ≠ j → (if i = j then some o' else Owns.get (Owns.kill i σ.E) j) = some oj → ∃ pj, Owns.get σ.E j = some pj ∧ pj.kill i = oj := fun hs hj => by
    rw [if_neg hs, Owns.get_kill] at hj
    exact Option.map_eq_some_iff.1 hj
  have hbel := h.bel.grown hg fun g e => h.new i o g hi e
  have hii := h.lt i o hi
  refine ⟨h.sz, h.df, hbel, ?_, ?_, ?_, ?_, ?_, ?_, ?_, ?_⟩
  · intro s
    show RepV _ _ _ (Frame.get (Frame.kill i σ.F) s).t _ _
    rw [Frame.get_kill]
    unfold V.kill
    cases hu : uses i (Frame.get σ.F s).t (Frame.get σ.F s).x with
    | true => trivial
    | false => exact RepV.other _ _ _ hu (RepV.keep hkeep _ _ _ (h.fr s))
  · intro j oj hj
    rw [show Owns.get ((i, some o') :: Owns.kill i σ.E) j = _ from Owns.get_cons ..] at hj
    by_cases hs : i = j
    · subst hs
      rw [if_pos rfl] at hj
      cases hj
      show OwnRep _ _ _ _ (if i = i then bv else _) _
      rw [if_pos rfl]
      exact hr
    · obtain ⟨pj, hj2, rfl⟩ := hold hs hj
      show OwnRep _ _ _ _ (if j = i then bv else _) _
      rw [if_neg (Ne.symm hs)]
      refine ((h.own j pj hj2).keep hkeep fun g hgb => hg.block g ((h.own j pj hj2).block_lt hgb).2 fun e => ?_).kill
      exact h.inj i j o pj hi hj2 hs g e.symm hgb
  · intro j oj g hj
    rw [show Owns.get ((i, some o') :: Owns.kill i σ.E) j = _ from Owns.get_cons ..] at hj
    show blockOf (if j = i then bv else β j) = some g → _
    by_cases hs : i = j
    · rw [if_pos hs.symm]
      intro hb1
      rcases hbv g hb1 with h3 | h3
      · exact h.new i o g hi h3
      · exact .inl (Nat.le_trans h.bel.size h3)
    · obtain ⟨pj, hj2, rfl⟩ := hold hs hj
      rw [if_neg (Ne.symm hs)]
      exact h.new j pj g hj2
  · intro j k oj ok hj hk hjk g
    rw [show Owns.get ((i, some o') :: Owns.kill i σ.E) j = _ from Owns.get_cons ..] at hj
    rw [show Owns.get ((i, some o') :: Owns.kill i σ.E) k = _ from Owns.get_cons ..] at hk
    show blockOf (if j = i then bv else β j) = some g → blockOf (if k = i then bv else β k) ≠ some g
    have fresh : ∀ m om, i ≠ m → Owns.get σ.E m = some om → blockOf bv = some g → blockOf (β m) ≠ some g := fun m om hm hmo hb1 hb2 => by
      rcases hbv g hb1 with h3 | h3
      · exact h.inj i m o om hi hmo hm g h3 hb2
      · have := ((h.own m om hmo).block_lt hb2).2
        omega
    by_cases h1 : i = j
    · by_cases h2 : i = k
      · omega
      · obtain ⟨pk, hk2, rfl⟩ := hold h2 hk
        rw [if_pos h1.symm, if_neg (Ne.symm h2)]
        exact fresh k pk h2 hk2
    · obtain ⟨pj, hj2, rfl⟩ := hold h1 hj
      rw [if_neg (Ne.symm h1)]
      by_cases h2 : i = k
      · rw [if_pos h2.symm]
        exact fun hb1 hb2 => fresh j pj h1 hj2 hb2 hb1
      · obtain ⟨pk, hk2, rfl⟩ := hold h2 hk
        rw [if_neg (Ne.symm h2)]
        exact h.inj j k pj pk hj2 hk2 hjk g
  · intro j oj hj
    rw [show Owns.get ((i, some o') :: Owns.kill i σ.E) j = _ from Owns.get_cons ..] at hj
    by_cases hs : i = j
    · exact hs ▸ hii
    · obtain ⟨pj, hj2, rfl⟩ := hold hs hj
      exact h.lt j pj hj2
  · refine ⟨h.fix.1, fun j hj => ?_⟩
    obtain ⟨h2, h3⟩ := h.fix.2 j hj
    have hs : i ≠ j := fun e => by subst e; have := h3 o hi; rw [hbuf] at this; cases this
    refine ⟨?_, fun oj ho => ?_⟩
    · show blockOf (if j = i then bv else β j) = some (X.fix j)
      rw [if_neg (Ne.symm hs)]
      exact h2
    · rw [show Owns.get ((i, some o') :: Owns.kill i σ.E) j = _ from Owns.get_cons ..] at ho
      obtain ⟨pj, hj2, rfl⟩ := hold hs ho
      rw [OObj.kill_isBuf]
      exact h3 pj hj2
  · intro s
    show (Frame.get (Frame.kill i σ.F) s).bound ≤ σ.nx
    rw [Frame.get_kill]
    unfold V.kill
    cases uses i (Frame.get σ.F s).t (Frame.get σ.F s).x with
    | true => exact Nat.zero_le _
    | false => exact h.hb s
  · intro j oj hj
    rw [show Owns.get ((i, some o') :: Owns.kill i σ.E) j = _ from Owns.get_cons ..] at hj
    by_cases hs : i = j
    · rw [if_pos hs] at hj; cases hj; exact hu
    · obtain ⟨pj, hj2, rfl⟩ := hold hs hj
      exact OObj.kill_under (h.hE j pj hj2)
/-- two that are the call's own may have changed: nothing of them is known -/
theorem Sim.lose2 (h : Sim w0 X n σ β a w) {i j : Nat} {oi oj : OObj} (hi : Owns.get σ.E i = some oi) (hj : Owns.get σ.E j = some oj) (hk : Kept (fun g => blockOf (β i) = some g ∨ blockOf (β j) = some g) w w') :
    Sim w0 X n { σ with E := (i, none) :: (j, none) :: σ.E } β a w' := by
  have hget : ∀ m om, Owns.get ((i, none) :: (j, none) :: σ.E) m = some om → i ≠ m ∧ j ≠ m ∧ Owns.get σ.E m = some om := fun m om hm => by
    rw [Owns.get_cons, Owns.get_cons] at hm
    by_cases h1 : i = m
    · rw [if_pos h1] at hm; cases hm
    · rw [if_neg h1] at hm
      by_cases h2 : j = m
      · rw [if_pos h2] at hm; cases hm
      · rw [if_neg h2] at hm; exact ⟨h1, h2, hm⟩
  have hkeep : Keeps w w' (OSet X σ.E β) (OSet X ((i, none) :: (j, none) :: σ.E) β) := ⟨hk.size, fun g hg hgo => hk.block g hg fun e => hgo (.inr (e.elim (fun e => ⟨i, oi, hi, e⟩) fun e => ⟨j, oj, hj, e⟩)), fun g _ hg => by
    rcases hg with hg | ⟨m, om, h1, h2⟩
    · exact .inl hg
    · exact .inr ⟨m, om, (hget m om h1).2.2, h2⟩⟩
  have hbel : Kept X.R w0 w' := ⟨hk.os.trans h.bel.os, hk.tape.trans h.bel.tape, hk.output.trans h.bel.output, Nat.le_trans h.bel.size hk.size, fun k hkl hr => (hk.block k (Nat.lt_of_lt_of_le hkl h.bel.size) fun e => by
    rcases e with e | e
    · rcases h.new i oi k hi e with h1 | h1
      · omega
      · exact hr h1
    · rcases h.new j oj k hj e with h1 | h1
      · omega
      · exact hr h1).trans (h.bel.block k hkl hr)⟩
  exact ⟨h.sz, h.df, hbel, fun s => RepV.keep hkeep _ _ _ (h.fr s), fun m om hm => by
      obtain ⟨h1, h2, h3⟩ := hget m om hm
      exact (h.own m om h3).keep hkeep fun g hg => hk.block g ((h.own m om h3).block_lt hg).2 fun e => e.elim (fun e => h.inj i m oi om hi h3 h1 g e hg) fun e => h.inj j m oj om hj h3 h2 g e hg,
    fun m om g hm => h.new m om g (hget m om hm).2.2, fun m k om ok hm hk' => h.inj m k om ok (hget m om hm).2.2 (hget k ok hk').2.2, fun m om hm => h.lt m om (hget m om hm).2.2,
    ⟨h.fix.1, fun m hm => ⟨(h.fix.2 m hm).1, fun om ho => (h.fix.2 m hm).2 om (hget m om ho).2.2⟩⟩, h.hb, fun m om hm => h.hE m om (hget m om hm).2.2⟩
end
section
variable {P : Program} {K : Kn} {w0 : World} {X : Ownr} {n : Nat} {σ : AS} {Q : Exit → AS → Prop} {ops : Array Oper}
/-- what a call of such a function leaves -/
@[reducible] def HNext {R S : Type} (N : R → S → Prop) (E : Value → Prop) : Except Value (R × S) → Prop
  | .ok (y, x') => N y x'
  | .error pv => E pv
theorem hcallG_wp (hX : X.Ok w0) {o : Oper} {f : FuncId} {c : HCtr} (hc : HCtrOk P X.G f c) {a0 : Operand} {as : List Operand} (hrunG : ∀ (β : Nat → Value) (a : Act) (w : World), Sim w0 X n (frzs σ as) β a w → (∀ (as : Array Value) (w : World), (callFunc f as).run P w = .ok (.enter f as) w) → (execOp a.eval o).run P w = .ok (.enter f (a.eval a0 :: as.map a.eval).toArray) w)
    {F : Frame} {E : Owns} {nx : Nat} (hσ : frzs σ as = ⟨F, E, nx⟩) {i : Nat} (hev : evO F a0 = ⟨.hptr, (i, (0 : Nat))⟩) {vs : List V} (hbox : Owns.get E i = some (.hbox vs)) {et : Ty} {j : Nat} (hk : vs[c.k]? = some ⟨.obuf et, j⟩) {xsl : List c.et.T} (hbuf : Owns.get E j = some (.buf c.te c.et xsl))
    {x : c.self.T} (hun : unD c.self (vs.set c.k ⟨.slice c.et, xsl⟩) = some (x, [])) (hd : allData c.args = true) (hfl : c.res.flat = true)
    {q : List Prop} {xs : Args c.args} (hav : argsV E false (as.map (evO F)) c.args = some (q, xs)) (hq : allP q) (hpre : allP (c.pre x xs)) (hinv : ∀ w R, (∀ g, R g → w0.heap.size ≤ g ∨ X.R g) → X.G w → c.inv w R) {F' : c.res.T → Frame} (hput : ∀ y, putD n o.dst (resV c.res y) (Frame.kill j F) = some (F' y))
    {N : AS → Prop} (h : HNext (fun y x' => N ⟨F' y, (i, some (.hbox (c.lv j x'))) :: (j, some (.buf c.te c.et (c.sl x'))) :: Owns.kill j E, nx⟩) (fun pv => Q (.panic [{ v := pv, recovered := false }]) ⟨F, (i, none) :: (j, none) :: E, nx⟩) (c.out x xs))
    (β : Nat → Value) (a : Act) (w : World) (hs : Sim w0 X n σ β a w) : o.wp P a w (fun a' w' => ∃ σ' β', Sim w0 X n σ' β' a' w' ∧ N σ') (fun e a' w' => e ≠ .outgrown ∧ ∃ σ' β', Sim w0 X n σ' β' a' w' ∧ Q e σ') := by
  have h1 := hs.frzs hX as
  have h1r := h1
  rw [hσ] at h1
  obtain ⟨hen, hlaw, hcall⟩ := hc
  have hunH : unH c vs E x := ⟨et, j, xsl, hk, hbuf, hun⟩
  have hsl : xsl = c.sl x := by
    obtain ⟨et', j', k1, k2, _⟩ := unH_conv hlaw hunH
    rw [hk] at k1
    cases k1
    rw [hbuf] at k2
    cases k2
    rfl
  subst hsl
  have hv := h1.ops a0
  rw [show evO (AS.mk F E nx).F a0 = _ from hev] at hv
  obtain ⟨g, hg1, hg2⟩ := hv
  obtain ⟨g', cs, ty, e1, _, e3, e4⟩ := h1.own _ _ hbox
  have hgg : g' = g := by
    have hg1 : blockOf (β i) = some g := hg1
    rw [e1] at hg1
    simpa [blockOf] using hg1
  subst hgg
  have hij : i ≠ j := fun e => by rw [e, hbuf] at hbox; cases hbox
  have hji : j ≠ i := fun e => hij e.symm
  have hbj := h1.own _ _ hbuf
  have hOg : OSet X E β g' := .inr ⟨_, _, hbox, by rw [e1]; rfl⟩
  have hgb : blockOf (β j) ≠ some g' := h1.inj i j _ _ hbox hbuf hij g' (by rw [e1]; rfl)
  obtain ⟨O, hO⟩ : ∃ O : Nat → Prop, O = fun k => OSet X E β k ∧ k ≠ g' ∧ blockOf (β j) ≠ some k := ⟨_, rfl⟩
  have hset : oset2 O g' (β j) = OSet X E β := by
    funext k
    apply propext
    rw [hO]
    constructor
    · rintro ((hk | rfl) | hk)
      · exact hk.1
      · exact hOg
      · exact .inr ⟨j, _, hbuf, hk⟩
    · intro hk
      by_cases e : k = g'
      · exact .inl (.inr e)
      · by_cases e' : blockOf (β j) = some k
        · exact .inr e'
        · exact .inl (.inl ⟨hk, e, e'⟩)
  have hvs : RepVs w (OSet X E β) β (as.map (evO F)) (as.map a.eval) := by
    refine ⟨by simp, fun i v hv => ?_⟩
    rw [List.getElem?_map] at hv
    obtain ⟨z, hz, rfl⟩ := Option.map_eq_some_iff.1 hv
    exact ⟨a.eval z, by rw [List.getElem?_map, hz]; rfl, h1.ops z⟩
  have ha := argsV_rep (B := 0) h1.own hd hav hq hvs.2 hvs.1
  have ha : RepA w (oset2 O g' (β j)) c.args xs (as.map a.eval) := by
    rw [hset]
    have e : (fun k => false = false ∧ OSet X E β k) = OSet X E β := by funext k; simp
    rwa [e] at ha
  have hK0 : Keeps w w (OSet X E β) (oset2 O g' (β j)) := by rw [hset]; exact Keeps.refl _ _
  have hlv : RepH w (oset2 O g' (β j)) (beta2 g' (β j)) (c.lv 1 x) cs := RepH.toLv hlaw hK0 hunH e4 fun j' et' hj' => by
    rw [hk] at hj'
    cases hj'
    rfl
  have hbuf2 : OwnRep w (oset2 O g' (β j)) (beta2 g' (β j)) 0 (β j) (.buf c.te c.et (c.sl x)) := hbj.keep hK0 fun _ _ => rfl
  have hOk : ∀ k, O k → k < w.heap.size ∧ k ≠ g' ∧ blockOf (β j) ≠ some k := fun k hk => by
    rw [hO] at hk
    exact ⟨h1.hO hX k hk.1, hk.2⟩
  have hR : ∀ k, (k = g' ∨ blockOf (β j) = some k) → w0.heap.size ≤ k ∨ X.R k := fun k hk => by
    rcases hk with rfl | hk
    · exact h1.new _ _ k hbox (by rw [e1]; rfl)
    · exact h1.new _ _ k hbuf hk
  have hcl := hcall w O g' cs ty x xs _ (β j) hOk hgb e3 hlv hbuf2 ha hpre (hinv w _ hR (hX.2.2 w h1.bel)) (hX.2.2 w h1.bel)
  have hrun : (execOp a.eval o).run P w = .ok (.enter f (Value.pointer (some ⟨g', 0, none⟩) :: as.map a.eval).toArray) w := by
    rw [hrunG β a w h1r hen, hg2]
  unfold Oper.wp
  rw [hrun]
  refine hcl.mono fun e w' hr => ?_
  obtain ⟨hkp, hr⟩ := hr
  revert hr h
  cases c.out x xs with
  | error pv =>
    intro h
    rintro rfl
    refine ⟨fun e => (by cases e), _, β, h1.lose2 hbox hbuf ⟨hkp.os, hkp.tape, hkp.output, hkp.size, fun k hkl hn => hkp.block k hkl fun hk => hn ?_⟩, h⟩
    rcases hk with rfl | hk
    · exact .inl (by rw [e1]; rfl)
    · exact .inr hk
  | ok r =>
    obtain ⟨y, x'⟩ := r
    intro h
    rintro ⟨v, cs', ty', b', rfl, h7, h8, h9, hng, hnew, hres⟩
    -- the world in which the variable is as it was
    obtain ⟨w1, hw1⟩ : ∃ w1, w1 = w'.putObj g' (.cells cs.toArray ty (0, 0)) := ⟨_, rfl⟩
    have hgl' : g' < w'.heap.size := (Array.getElem?_eq_some_iff.1 h7).1
    have hgl : g' < w.heap.size := (Array.getElem?_eq_some_iff.1 e3).1
    have hw1g : w1.heap[g']? = some (.cells cs.toArray ty (0, 0)) := by rw [hw1]; exact World.putObj_heap_same hgl'
    have hw1o : ∀ k, k ≠ g' → w1.heap[k]? = w'.heap[k]? := fun k hne => by rw [hw1]; exact World.putObj_heap_other hne
    have hp1 := grownBy_putObj' w' g' (.cells cs.toArray ty (0, 0))
    rw [← hw1] at hp1
    have hsz1 : w1.heap.size = w'.heap.size := by rw [hw1]; simp
    let β1 : Nat → Value := fun m => if m = j then b' else β m
    obtain ⟨E1, hE1⟩ : ∃ E1 : Owns, E1 = (j, some (.buf c.te c.et (c.sl x'))) :: Owns.kill j E := ⟨_, rfl⟩
    -- the call's own set behind the call
    have hset1 : ∀ k, OSet X E1 β1 k → oset2 O g' b' k := fun k hk => by
      have hX' : ∀ m om, m ≠ j → Owns.get E m = some om → blockOf (β m) = some k → oset2 O g' b' k := fun m om hmj hm hbm => by
        by_cases e : k = g'
        · exact .inl (.inr e)
        · refine .inl (.inl ?_)
          rw [hO]
          exact ⟨.inr ⟨m, om, hm, hbm⟩, e, fun e' => h1.inj m j om _ hm hbuf hmj k hbm e'⟩
      rcases hk with hk | ⟨m, om, hm, hbm⟩
      · refine .inl (.inl ?_)
        rw [hO]
        have h3 := hX.1 k hk
        refine ⟨.inl hk, fun e => ?_, fun e => ?_⟩
        · rcases hR k (.inl e) with h4 | h4
          · omega
          · exact h3.2 h4
        · rcases hR k (.inr e) with h4 | h4
          · omega
          · exact h3.2 h4
      · rw [hE1, Owns.get_cons] at hm
        by_cases hjm : j = m
        · subst hjm
          have hbm : blockOf (if j = j then b' else β j) = some k := hbm
          rw [if_pos rfl] at hbm
          exact .inr hbm
        · rw [if_neg hjm, Owns.get_kill] at hm
          obtain ⟨pm, hp, _⟩ := Option.map_eq_some_iff.1 hm
          have hbm : blockOf (if m = j then b' else β m) = some k := hbm
          rw [if_neg (Ne.symm hjm)] at hbm
          exact hX' m pm (Ne.symm hjm) hp hbm
    have hgr : w.grownBy w1 (blockOf (β j)) := ⟨hp1.os.trans hkp.os, hp1.tape.trans hkp.tape, hp1.output.trans hkp.output, by rw [hsz1]; exact hkp.size, fun k hkl hne => by
      by_cases e : k = g'
      · rw [e, hw1g, e3]
      · rw [hw1o k e]
        exact hkp.block k hkl fun hk => hk.elim e fun hk => hne hk.symm⟩
    have h2 := h1.redo0 (w' := w1) (o' := .buf c.te c.et (c.sl x')) hbuf rfl hgr hnew (by
      refine h9.keep ⟨by rw [hsz1]; exact Nat.le_refl _, fun k _ hn => hw1o k fun e => hn (.inl (.inr e)), fun k _ hk => hset1 k (by rw [hE1]; exact hk)⟩ fun k hk => hw1o k fun e => hng (by rw [hk, e]))
    rw [← hE1] at h2
    have hbi : (if i = j then b' else β i) = .pointer (some ⟨g', 0, none⟩) := by rw [if_neg hij, e1]
    have hi1 : Owns.get E1 i = some (.hbox (vs.map (V.kill j))) := by
      rw [hE1, Owns.get_cons, if_neg hji, Owns.get_kill]
      rw [show Owns.get E i = _ from hbox]
      rfl
    have hjn := h1.lt j _ hbuf
    have h3 := h2.write (w' := w') (o' := .hbox (c.lv j x')) hi1 (by
      rw [hbi]
      refine ⟨hp1.os.symm, hp1.tape.symm, hp1.output.symm, by show w1.heap.size ≤ w'.heap.size; rw [hsz1]; exact Nat.le_refl _, fun k _ hne => (hw1o k fun e => hne (by rw [e]; rfl)).symm⟩) (fun _ => by
      rw [hbi]
      refine ⟨g', cs', ty', rfl, Nat.zero_le _, h7, RepH.lvLv hlaw ⟨Nat.le_refl _, fun _ _ _ => rfl, fun k _ hk => hset1 k hk⟩ h8 ?_⟩
      show (if j = j then b' else β j) = beta2 g' b' 1
      rw [if_pos rfl]
      rfl) rfl (fun ws e u hu => by
      cases e
      exact lv_under hlaw hjn x' u hu)
    subst hE1
    refine ⟨_, fun m => if m = j then b' else β m, ?_, h⟩
    have hp := hput y
    unfold putD at hp
    split at hp
    · rename_i d hdst
      split at hp <;> first | (cases hp; done) | skip
      rename_i hlt
      have hp := Option.some.inj hp
      rw [hdst, ← hp]
      exact h3.put (Below.refl _ _) (resV_rep (O' := OSet X _ (fun m => if m = j then b' else β m)) (β := fun m => if m = j then b' else β m) _ hfl hres) (resV_bound _ hfl _) (by simpa using hlt : d < n)
    · rename_i hdst
      have hp := Option.some.inj hp
      rw [hdst, ← hp]
      exact h3
theorem hcall_wp (hX : X.Ok w0) {o : Oper} {f : FuncId} {c : HCtr} (hc : HCtrOk P X.G f c) {args : Array Operand} {ts : Array TypeId} {a0 : Operand} {as : List Operand} (ho : o.op = .call ⟨.value (.func f), args, ts⟩) (hargs : args.toList = a0 :: as)
    {F : Frame} {E : Owns} {nx : Nat} (hσ : frzs σ as = ⟨F, E, nx⟩) {i : Nat} (hev : evO F a0 = ⟨.hptr, (i, (0 : Nat))⟩) {vs : List V} (hbox : Owns.get E i = some (.hbox vs)) {et : Ty} {j : Nat} (hk : vs[c.k]? = some ⟨.obuf et, j⟩) {xsl : List c.et.T} (hbuf : Owns.get E j = some (.buf c.te c.et xsl))
    {x : c.self.T} (hun : unD c.self (vs.set c.k ⟨.slice c.et, xsl⟩) = some (x, [])) (hd : allData c.args = true) (hfl : c.res.flat = true)
    {q : List Prop} {xs : Args c.args} (hav : argsV E false (as.map (evO F)) c.args = some (q, xs)) (hq : allP q) (hpre : allP (c.pre x xs)) (hinv : ∀ w R, (∀ g, R g → w0.heap.size ≤ g ∨ X.R g) → X.G w → c.inv w R) {F' : c.res.T → Frame} (hput : ∀ y, putD n o.dst (resV c.res y) (Frame.kill j F) = some (F' y))
    {N : AS → Prop} (h : HNext (fun y x' => N ⟨F' y, (i, some (.hbox (c.lv j x'))) :: (j, some (.buf c.te c.et (c.sl x'))) :: Owns.kill j E, nx⟩) (fun pv => Q (.panic [{ v := pv, recovered := false }]) ⟨F, (i, none) :: (j, none) :: E, nx⟩) (c.out x xs))
    (β : Nat → Value) (a : Act) (w : World) (hs : Sim w0 X n σ β a w) : o.wp P a w (fun a' w' => ∃ σ' β', Sim w0 X n σ' β' a' w' ∧ N σ') (fun e a' w' => e ≠ .outgrown ∧ ∃ σ' β', Sim w0 X n σ' β' a' w' ∧ Q e σ') :=
  hcallG_wp hX hc (a0 := a0) (as := as) (fun β a w hs hen => by
    have hargs' : (args.toList.map a.eval).toArray = (a.eval a0 :: as.map a.eval).toArray := by rw [hargs, List.map_cons]
    rw [← hargs']
    have em : (args.toList.map a.eval).toArray = args.map a.eval ++ #[] := by
      rw [← map_toArr]
      simp
    have hx : a.eval (.func f) = .func (.func f) #[] #[] := rfl
    rw [em]
    unfold execOp
    simp [ho, resolve, invoke, Deferred.ofValue, hx, hen]) hσ hev hbox hk hbuf hun hd hfl hav hq hpre hinv hput h β a w hs
/-- the call, worked out: conditions, contract, the variable, the arguments, the state that is left (i: the variable, j: its slice) -/
structure HSite where
  c : HCtr
  x : c.self.T
  xs : Args c.args
  q : List Prop
  next : c.res.T → c.self.T → AS
  lost : AS
def hget : List (FuncId × HCtr) → FuncId → Option HCtr
  | [], _ => none
  | (g, c) :: r, f => bif Nat.beq g f then some c else hget r f
def HsOk (P : Program) (G : World → Prop) (C : List (FuncId × HCtr)) : Prop := ∀ f c, hget C f = some c → HCtrOk P G f c
theorem HsOk.nil {P : Program} {G : World → Prop} : HsOk P G [] := fun _ _ h => by cases h
theorem HsOk.cons {P : Program} {G : World → Prop} {f : FuncId} {c : HCtr} {C : List (FuncId × HCtr)} (h : HCtrOk P G f c) (hC : HsOk P G C) : HsOk P G ((f, c) :: C) := by
  intro g d hg
  simp only [hget, cond_eq_ite, Nat.beq_eq] at hg
  split at hg
  · rename_i e; cases hg; exact e ▸ h
  · exact hC g d hg
/-- the function and the first argument of a call -/
def hFn (F : Frame) : Op → Option (FuncId × Operand × List Operand)
  | .call ⟨.value (.func f), args, _⟩ => match args.toList with
    | a0 :: as => some (f, a0, as)
    | [] => none
  | _ => none
def hWrite (n : Nat) (d : Option Nat) (v : V) (F : Frame) : Frame := match d with
  | some d => (d, v) :: F
  | none => F
def dstOk (n : Nat) : Option Nat → Bool
  | some d => Nat.blt d n
  | none => true
def castB (te : TypeId) (t : Ty) : OObj → Option (List t.T)
  | .buf te' t' xs => if Nat.beq te te' then castO (.slice t') (.slice t) xs (tyEq? (.slice t') (.slice t)) else none
  | _ => none
def hSite (C : List (FuncId × HCtr)) (n : Nat) (o : Oper) (σ : AS) : Option HSite :=
  match hFn σ.F o.op with
  | some (f, a0, as) => match hget C f with
    | some c => match frzs σ as with
      | ⟨F, E, nx⟩ => match evO F a0 with
        | ⟨.hptr, (i, 0)⟩ => match Owns.get E i with
          | some (.hbox vs) => match vs[c.k]? with
            | some ⟨.obuf _, j⟩ => match Owns.get E j with
              | some ob => match castB c.te c.et ob with
                | some xsl => if allData c.args && c.res.flat && dstOk n o.dst then (match unD c.self (vs.set c.k ⟨.slice c.et, xsl⟩), argsV E false (as.map (evO F)) c.args with
                  | some (x, []), some (q, xs) => some ⟨c, x, xs, q ++ c.pre x xs, fun y x' => ⟨hWrite n o.dst (resV c.res y) (Frame.kill j F), (i, some (.hbox (c.lv j x'))) :: (j, some (.buf c.te c.et (c.sl x'))) :: Owns.kill j E, nx⟩, ⟨F, (i, none) :: (j, none) :: E, nx⟩⟩
                  | _, _ => none) else none
                | none => none
              | none => none
            | _ => none
          | _ => none
        | _ => none
    | none => none
  | none => none
theorem castB_eq {te : TypeId} {t : Ty} {ob : OObj} {xs : List t.T} (h : castB te t ob = some xs) : ob = .buf te t xs := by
  cases ob with
  | buf te' t' ys =>
    simp only [castB] at h
    split at h <;> first | (cases h; done) | skip
    rename_i hte
    have hte : te = te' := by simpa using hte
    subst hte
    revert h
    generalize tyEq? (Ty.slice t') (Ty.slice t) = e
    intro h
    cases e with
    | none => cases h
    | some e =>
      obtain ⟨e⟩ := e
      cases e
      cases h
      rfl
  | _ => cases h
theorem hsite_wp (hX : X.Ok w0) {C : List (FuncId × HCtr)} (hC : HsOk P X.G C) {o : Oper} {s : HSite} (hs : hSite C n o σ = some s) (hq : allP s.q) (hinv : ∀ w R, (∀ g, R g → w0.heap.size ≤ g ∨ X.R g) → X.G w → s.c.inv w R)
    {N : AS → Prop} (h : HNext (fun y x' => N (s.next y x')) (fun pv => Q (.panic [{ v := pv, recovered := false }]) s.lost) (s.c.out s.x s.xs))
    (β : Nat → Value) (a : Act) (w : World) (hsim : Sim w0 X n σ β a w) : o.wp P a w (fun a' w' => ∃ σ' β', Sim w0 X n σ' β' a' w' ∧ N σ') (fun e a' w' => e ≠ .outgrown ∧ ∃ σ' β', Sim w0 X n σ' β' a' w' ∧ Q e σ') := by
  unfold hSite at hs
  split at hs <;> first | (cases hs; done) | skip
  rename_i f a0 as hfn
  split at hs <;> first | (cases hs; done) | skip
  rename_i c hc
  split at hs
  rename_i F E nx hσ
  split at hs <;> first | (cases hs; done) | skip
  rename_i i hev
  split at hs <;> first | (cases hs; done) | skip
  rename_i vs hbox
  split at hs <;> first | (cases hs; done) | skip
  rename_i et j hk
  split at hs <;> first | (cases hs; done) | skip
  rename_i ob hob
  split at hs <;> first | (cases hs; done) | skip
  rename_i xsl hcb
  split at hs <;> first | (cases hs; done) | skip
  rename_i hcond
  simp only [Bool.and_eq_true] at hcond
  obtain ⟨⟨hd, hfl⟩, hdst⟩ := hcond
  split at hs <;> first | (cases hs; done) | skip
  rename_i x q xs hun hav
  have hs := Option.some.inj hs
  subst hs
  have hbuf := castB_eq hcb
  subst hbuf
  simp only [allP_append] at hq
  obtain ⟨args, ts, ho, hargs⟩ : ∃ args ts, o.op = .call ⟨.value (.func f), args, ts⟩ ∧ args.toList = a0 :: as := by
    unfold hFn at hfn
    split at hfn <;> first | (cases hfn; done) | skip
    rename_i f' args ts hop
    split at hfn <;> first | (cases hfn; done) | skip
    rename_i b0 bs hl
    cases hfn
    exact ⟨args, ts, hop, hl⟩
  refine hcall_wp hX (hC f c hc) ho hargs hσ hev hbox hk hob hun hd hfl hav hq.1 hq.2 hinv (F' := fun y => hWrite n o.dst (resV c.res y) (Frame.kill j F)) (fun y => ?_) h β a w hsim
  unfold putD hWrite
  cases hh : o.dst with
  | none => rfl
  | some d =>
    rw [hh] at hdst
    have hdst : Nat.blt d n = true := hdst
    show (if Nat.blt d n = true then _ else _) = _
    rw [if_pos hdst]
/-- the first m operations, then such a call, then the rest -/
theorem AL.own (m : Nat) (hX : X.Ok w0) (hK : KnOk P X.G K) {C : List (FuncId × HCtr)} (hC : HsOk P X.G C) {l rest : List Oper} {o : Oper} {r : List Prop × AS} (hs : aSeq K n ops (l.take m) σ = some r) (hp : allP r.1) (hl : l.drop m = o :: rest) {s : HSite} (hsite : hSite C n o r.2 = some s)
    (hq : allP s.q) (hinv : ∀ w R, (∀ g, R g → w0.heap.size ≤ g ∨ X.R g) → X.G w → s.c.inv w R) (h : HNext (fun y x' => AL P w0 X n ops rest (s.next y x') Q) (fun pv => Q (.panic [{ v := pv, recovered := false }]) s.lost) (s.c.out s.x s.xs))
    (hgd : o.guard = none := by rfl) (hnd : ∀ c, o.op ≠ .defer c := by intro c e; cases e) (hd : noDefer (l.take m) = true := by rfl) : AL P w0 X n ops l σ Q := by
  refine AL.take m hX hK hs hp ?_ hd
  rw [hl]
  exact AL.hand hgd hnd fun β a w hsim => hsite_wp (N := fun σ' => AL P w0 X n ops rest σ' Q) hX hC hsite hq hinv h β a w hsim
/-- in a region that draws its order -/
theorem StepA.own (hX : X.Ok w0) {C : List (FuncId × HCtr)} (hC : HsOk P X.G C) {o : Oper} {s : HSite} {N : AS → Prop} (hsite : hSite C n o σ = some s) (hq : allP s.q) (hinv : ∀ w R, (∀ g, R g → w0.heap.size ≤ g ∨ X.R g) → X.G w → s.c.inv w R)
    (h : HNext (fun y x' => N (s.next y x')) (fun pv => Q (.panic [{ v := pv, recovered := false }]) s.lost) (s.c.out s.x s.xs)) (hgd : o.guard = none := by rfl) : StepA P w0 X n ops o σ N Q :=
  StepA.hand hgd fun β a w hsim => hsite_wp (N := N) hX hC hsite hq hinv h β a w hsim
end
end Go.Proofs.YtbbeldmcdjjnbaaDoor
