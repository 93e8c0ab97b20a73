/-
  A list of operations on a plain state: the program does so. No program is read here.
-/
import Derived.Test.YtpepbnieocdpbaaDoorAbsStep
import Derived.Laws.MakeOwn
namespace Go.Proofs.YtpepbnieocdpbaaDoor
open Go Go.RowKit
set_option linter.unusedSimpArgs false
set_option linter.unusedVariables false

section
variable {P : Program} {K : Kn} {w0 : World} {X : Ownr} {n : Nat} {σ : AS} {β : Nat → Value} {a : Act} {w : World}

theorem Sim.hO (h : Sim w0 X n σ β a w) (hX : X.Ok w0) : ∀ g, OSet X σ.E β g → g < w.heap.size := by
  rintro g (hg | ⟨i, o, h1, h2⟩)
  · exact Nat.lt_of_lt_of_le (hX.1 g hg).1 h.bel.size
  · exact ((h.own i o h1).block_lt h2).2
theorem Sim.ops (h : Sim w0 X n σ β a w) (x : Operand) : RepV w (OSet X σ.E β) β (evO σ.F x).t (evO σ.F x).x (a.eval x) :=
  evO_rep fun s _ => h.fr s
theorem Sim.frz (h : Sim w0 X n σ β a w) (hX : X.Ok w0) (x : Operand) : Sim w0 X n (frz σ x) β a w := by
  unfold Go.Proofs.YtpepbnieocdpbaaDoor.frz
  split
  · split
    · rename_i he
      exact h.freeze hX he
    · exact h
  · exact h
theorem Sim.frzs (h : Sim w0 X n σ β a w) (hX : X.Ok w0) (l : List Operand) : Sim w0 X n (frzs σ l) β a w := by
  induction l generalizing σ with
  | nil => exact h
  | cons x l ih => exact ih (h.frz hX x)

/-! ### bounds of handles -/
theorem bnd_data : ∀ (t : Ty) (x : t.T), t.data = true → bnd t x = 0 := by
  intro t x h
  cases t <;> first | rfl | cases h
theorem strip_bound (v : V) : (strip v).2.bound ≤ v.bound := by
  obtain ⟨t, x⟩ := v
  cases t <;> exact Nat.le_refl _
theorem evO_bound {F : Frame} {m : Nat} (h : ∀ s, (Frame.get F s).bound ≤ m) (x : Operand) : (evO F x).bound ≤ m := by
  cases x with
  | tmp s => exact h s
  | const v =>
    show (evC v).bound ≤ m
    have : (evC v).bound = 0 := by
      cases v with
      | int k n =>
        have key : ∀ (k : IntKind) (x : IntT k), (if encI k x = n then (⟨.int k, x⟩ : V) else ⟨.lit, .int k n⟩).bound = 0 := by
          intro k x
          split <;> rfl
        cases k <;> first | exact key _ _ | rfl
      | string s =>
        simp only [evC]
        cases Nat.ble s.data.toList.length 1000000 <;> rfl
      | _ => rfl
    omega
  | global g => exact Nat.zero_le _
  | func f => exact Nat.zero_le _

theorem bnd_hand : ∀ (t : Ty) (x : t.T), t.hand = false → bnd t x = 0 := by
  intro t
  induction t with
  | cond t ih => intro x h; exact ih _ h
  | optr => intro x h; cases h
  | obuf => intro x h; cases h
  | _ => intro x h; rfl
theorem pOp_bound {T : Tbl} {Q : List TypeId} {E : Owns} {F : Frame} {op : Op} {r : List Prop × V} (h : pOp T Q E F op = some r) (hh : (!r.2.t.hand || handsOn op) = true) {m : Nat} (hF : ∀ s, (Frame.get F s).bound ≤ m) (hE : ∀ i o, Owns.get E i = some o → i < m) : r.2.bound ≤ m := by
  cases hr : r.2.t.hand with
  | false => show bnd _ _ ≤ m; rw [bnd_hand _ _ hr]; exact Nat.zero_le _
  | true =>
    rw [hr] at hh
    have sb : ∀ x, (strip (evO F x)).2.bound ≤ m := fun x => Nat.le_trans (strip_bound _) (evO_bound hF x)
    cases op <;> first | (cases hh; done) | skip
    · cases h; exact evO_bound hF _
    · cases h; exact evO_bound hF _
    · rename_i x
      have := sb x
      simp only [pOp] at h
      split at h <;> first | (cases h; done) | skip
      · rename_i he; cases h; rw [he] at this; exact this
      · rename_i he; cases h; rw [he] at this; exact this
    · rename_i s x f
      obtain ⟨q, h1, rfl⟩ := pre_some h
      have := sb x
      unfold fieldAddrV at h1
      split at h1
      · split at h1 <;> first | (cases h1; done) | skip
        split at h1 <;> first | (cases h1; done) | skip
        split at h1 <;> first | (cases h1; done) | skip
        cases h1
        exact Nat.zero_le _
      · rename_i he
        split at h1 <;> first | (cases h1; done) | skip
        split at h1 <;> first | (cases h1; done) | skip
        split at h1 <;> first | (cases h1; done) | skip
        cases h1
        rw [he] at this
        exact this
      · cases h1
    · rename_i t x i
      obtain ⟨q, h1, rfl⟩ := pre_some h
      have := sb x
      unfold indexAddrV at h1
      split at h1
      · split at h1 <;> first | (cases h1; done) | skip
        cases h1
        exact Nat.zero_le _
      · split at h1 <;> first | (cases h1; done) | skip
        cases h1
        exact Nat.zero_le _
      · rename_i he _
        split at h1 <;> first | (cases h1; done) | skip
        cases h1
        rw [he] at this
        exact this
      · rename_i he _
        split at h1 <;> first | (cases h1; done) | skip
        split at h1 <;> first | (cases h1; done) | skip
        cases h1
        rw [he] at this
        exact this
      · cases h1

/-! ### one operation -/
theorem Sim.puts (h : Sim w0 X n σ β a w) {w' : World} (hk : Below w.heap.size w w') {v : V} {u : Value} (hr : RepV w' (OSet X σ.E β) β v.t v.x u) (hb : v.bound ≤ σ.nx) {d : Nat} (hd : d < n) : Sim w0 X n (σ.put d v) β (a.put (some d) u) w' :=
  h.put hk hr hb hd
theorem Path.set_rep : ∀ {r t : Ty} (p : Path r t) (x : r.T) (y : t.T) (cs c : List Value) {O : Nat → Prop}, RootRep w O p.isElm r x cs → allP (p.vcs x) → RepC w O t y c → RootRep w O p.isElm r (p.set x y) (over cs p.off c) := by
  intro r t p
  induction p with
  | here =>
    intro x y cs c O h _ hc
    have l1 := RepC.len _ _ _ h
    have l2 := RepC.len _ _ _ hc
    have : over cs 0 c = c := by simp [over, l1, l2]
    simp only [Path.off, this]
    exact hc
  | @fst r a b p ih =>
    intro x y cs c O h hv hc
    obtain ⟨⟨c1, c2, h1, h2, h3⟩, h4⟩ := Path.rep p x cs h hv
    have l0 := RepC.len _ _ _ hc
    have l1 := RepC.len _ _ _ h2
    have l2 := RepC.len _ _ _ h3
    simp only [Ty.size] at h1 h4
    have := ih x (y, (p.get x).2) cs (c ++ c2) h hv ⟨c, c2, rfl, hc, h3⟩
    have e : over cs p.off (c ++ c2) = over cs p.off c := by
      have hd : cs.drop (p.off + a.size) = c2 ++ cs.drop (p.off + a.size + b.size) := by
        have h5 : cs.drop p.off = c1 ++ c2 ++ (cs.drop p.off).drop (a.size + b.size) := by
          rw [← h1, List.take_append_drop]
        rw [← List.drop_drop, h5, List.append_assoc, ← l1, List.drop_left, List.drop_drop, Nat.add_assoc]
      simp only [over, List.length_append, l0, l2]
      rw [← Nat.add_assoc, hd]
      simp
    rw [e] at this
    exact this
  | @snd r a b p ih =>
    intro x y cs c O h hv hc
    obtain ⟨⟨c1, c2, h1, h2, h3⟩, h4⟩ := Path.rep p x cs h hv
    have l0 := RepC.len _ _ _ hc
    have l1 := RepC.len _ _ _ h2
    simp only [Ty.size] at h1 h4
    have := ih x ((p.get x).1, y) cs (c1 ++ c) h hv ⟨c1, c, rfl, h2, hc⟩
    have e : over cs p.off (c1 ++ c) = over cs (p.off + a.size) c := by
      have hd : cs.take (p.off + a.size) = cs.take p.off ++ c1 := by
        have h5 : (cs.drop p.off).take a.size = c1 := by
          have h6 : ((cs.drop p.off).take (a.size + b.size)).take a.size = c1 := by rw [h1, ← l1, List.take_left]
          rwa [List.take_take, Nat.min_eq_left (by omega)] at h6
        rw [← h5, List.take_add]
      simp only [over, List.length_append, l0, l1, hd]
      simp [Nat.add_assoc]
    rw [e] at this
    exact this
  | @idx r t n p k ih =>
    intro x y cs c O h hv hc
    rw [Path.vcs, allP_append] at hv
    have hk : k < n := hv.2
    obtain ⟨⟨h1, h2⟩, h4⟩ := Path.rep p x cs h hv.1
    simp only [Ty.size] at h2 h4
    have l0 := RepC.len _ _ _ hc
    have hlen : List.length (p.get x) = n := h1
    have hset := h2.set (fun x c => RepC.len t x c) (show k < List.length (p.get x) by omega) hc
    have := ih x (List.set (p.get x) k y) cs _ h hv.1 ⟨by simp [hlen], hset⟩
    have e : over cs p.off (((cs.drop p.off).take (n * t.size)).take (k * t.size) ++ c ++ ((cs.drop p.off).take (n * t.size)).drop (k * t.size + t.size)) = over cs (p.off + k * t.size) c := by
      have hle : k * t.size + t.size ≤ n * t.size := by
        have := Nat.mul_le_mul_right t.size (show k + 1 ≤ n by omega)
        rwa [Nat.add_mul, Nat.one_mul] at this
      have hl : (((cs.drop p.off).take (n * t.size)).take (k * t.size) ++ c ++ ((cs.drop p.off).take (n * t.size)).drop (k * t.size + t.size)).length = n * t.size := by
        simp [l0]; omega
      simp only [over, hl, l0]
      rw [List.take_add (i := p.off) (j := k * t.size), List.take_take, Nat.min_eq_left (by omega), List.drop_take, List.drop_drop]
      have e3 : cs.drop (p.off + k * t.size + t.size) = ((cs.drop (p.off + (k * t.size + t.size))).take (n * t.size - (k * t.size + t.size))) ++ cs.drop (p.off + n * t.size) := by
        have h7 := (List.take_append_drop (n * t.size - (k * t.size + t.size)) (cs.drop (p.off + (k * t.size + t.size)))).symm
        rw [List.drop_drop, show p.off + (k * t.size + t.size) + (n * t.size - (k * t.size + t.size)) = p.off + n * t.size by omega] at h7
        rw [Nat.add_assoc]
        exact h7
      rw [e3]
      simp
    rw [e] at this
    exact this
  | @elm t k =>
    intro x y cs c O h hv hc
    have hk : k < List.length x := hv
    have h' : RepL (RepC w O t) x cs := h
    have l0 := RepC.len _ _ _ hc
    have := h'.set (fun x c => RepC.len t x c) hk hc
    show RepL (RepC w O t) (List.set x k y) (over cs (k * t.size) c)
    simp only [over, l0]
    exact this

theorem grownBy_row (w : World) (g : Nat) (cs : Array Value) : w.grownBy (w.setRow g cs) (some g) :=
  ⟨rfl, rfl, rfl, by simp, fun k _ hne => setRow_other w g k cs (fun e => hne (by rw [e]))⟩
theorem rootRep_keep {w w' : World} {O O' : Nat → Prop} (hk : Keeps w w' O O') : ∀ (e : Bool) (r : Ty) (x : r.T) (cs : List Value), RootRep w O e r x cs → RootRep w' O' e r x cs
  | false, r, x, cs, h => RepC.keep hk _ _ _ h
  | true, .slice s, x, cs, h => RepL.mono h fun y _ c => RepC.keep hk _ _ _
  | true, .bool, _, _, h => h.elim
  | true, .int _, _, _, h => h.elim
  | true, .str, _, _, h => h.elim
  | true, .unit, _, _, h => h.elim
  | true, .pair _ _, _, _, h => h.elim
  | true, .arr _ _, _, _, h => h.elim
  | true, .junk, _, _, h => h.elim
  | true, .lit, _, _, h => h.elim
  | true, .vptr _, _, _, h => h.elim
  | true, .optr _, _, _, h => h.elim
  | true, .obuf _, _, _, h => h.elim
  | true, .tup _ _, _, _, h => h.elim
  | true, .cond _, _, _, h => h.elim
/-- the cells behind something of the call's own, and it anew when they are written -/
theorem OwnRep.anew {O : Nat → Prop} {B : Nat} {bv : Value} {o : OObj} (h : OwnRep w O B bv o) {g : Nat} (hg : blockOf bv = some g) :
    ∃ cs cur ty, RootRep w O o.isBuf o.v.t o.v.x cs ∧ w.heap[g]? = some (.cells cur ty (0, 0)) ∧ cs.length ≤ cur.size ∧ cur.toList.take cs.length = cs ∧
      ∀ (w' : World) (O' : Nat → Prop) (o' : OObj) (cs' : List Value) (cur' : Array Value), o'.isBuf = o.isBuf → (∀ te t xs, o = .buf te t xs → ∃ ys : List t.T, o' = .buf te t ys ∧ ys.length = xs.length) → RootRep w' O' o'.isBuf o'.v.t o'.v.x cs' → cs'.length = cs.length → cur'.size = cur.size → cur'.toList.take cs.length = cs' → w'.heap[g]? = some (.cells cur' ty (0, 0)) → OwnRep w' O' B bv o' := by
  cases o with
  | box t x =>
    obtain ⟨g', cs, ty, rfl, h1, h2, h3⟩ := h
    cases hg
    refine ⟨cs, cs.toArray, ty, h3, h2, by simp, by simp, fun w' O' o' cs' cur' hb _ hr hl hs ht hh => ?_⟩
    cases o' with
    | buf te t ys => cases hb
    | box t' x' =>
      refine ⟨g', cur'.toList, ty, rfl, h1, by simpa using hh, ?_⟩
      have : cur'.toList = cs' := by rw [← ht, List.take_of_length_le (by simp [hs])]
      rw [this]
      exact hr
  | buf te t xs =>
    obtain ⟨cs, h1, h2, h3⟩ := h
    rcases h2.2 with ⟨rfl, _⟩ | ⟨g', cap, cur, rfl, h4, h5, h6, h7, h8, h9⟩
    · cases hg
    · cases hg
      have hcl := h2.1
      have hle : cs.length ≤ cur.size := by rw [hcl, h8]; exact Nat.mul_le_mul_right _ h6
      refine ⟨cs, cur, te, h1, h5, hle, by rw [hcl]; exact h9, fun w' O' o' cs' cur' hb hbuf hr hl hs ht hh => ?_⟩
      obtain ⟨ys, rfl, hy⟩ := hbuf te t xs rfl
      refine ⟨cs', hr, ⟨by rw [hl, hcl, hy], .inr ⟨g', cap, cur', by rw [hy], h4, hh, by rw [hy]; exact h6, h7, by rw [hs]; exact h8, by rw [hy, ← hcl]; exact ht⟩⟩, h3⟩
theorem elm_len : ∀ {r t : Ty} (p : Path r t) (s : Ty) (h : r = .slice s) (x : r.T) (y : t.T), p.isElm = true → List.length (h ▸ p.set x y : (Ty.slice s).T) = List.length (h ▸ x : (Ty.slice s).T) := by
  intro r t p
  induction p with
  | here => intro s h x y he; cases he
  | fst p ih => intro s h x y he; exact ih s h x _ he
  | snd p ih => intro s h x y he; exact ih s h x _ he
  | idx p k ih => intro s h x y he; exact ih s h x _ he
  | elm k => intro s h x y he; cases h; exact List.length_set
/-- a store through a place of the call's own -/
theorem storeAt_own {B : Nat} {O : Nat → Prop} {bv : Value} {o o' : OObj} (hown : OwnRep w O B bv o) {g : Nat} (hg : blockOf bv = some g) (hOg : O g) {τ : Ty} {t : TypeId} (ht : Lay P τ (.inl t)) {root : Ty} {p : Path root τ} {y : τ.T} {vc : List Prop} (hset : o.set p y = some (vc, o')) (hp : allP vc) {u : Value} (hu : RepD w O τ y u) :
    ∃ w', (Instr.storeAt t (.pointer (some ⟨g, p.off, none⟩)) u).run P w = .ok () w' ∧ w.grownBy w' (some g) ∧ (Keeps w w' O O → OwnRep w' O B bv o') ∧ o'.isBuf = o.isBuf := by
  obtain ⟨cs, cur, ty, h1, h2, h3, h4, h5⟩ := hown.anew hg
  have hc := hu.cells
  have hlc := RepC.len _ _ _ hc
  have hroot : ∃ x : root.T, RootRep w O p.isElm root x cs ∧ allP (p.vcs x) ∧ o'.isBuf = o.isBuf ∧ (∀ te t xs, o = .buf te t xs → ∃ ys : List t.T, o' = .buf te t ys ∧ (ys.length = xs.length)) ∧ (∀ w' O' cs', RootRep w' O' p.isElm root (p.set x y) cs' → RootRep w' O' o'.isBuf o'.v.t o'.v.x cs') := by
    cases o with
    | box s x =>
      simp only [OObj.set] at hset
      split at hset
      · rename_i he
        split at hset
        · rename_i z hz
          rw [Path.setO_eq] at hset
          cases hset
          have hz' := castO_spec hz
          refine ⟨z, ?_, hp, rfl, ?_, ?_⟩
          · rw [he]
            have h1' : RootRep w O false (OObj.box s x).v.t (OObj.box s x).v.x cs := h1
            rw [show (OObj.box s x).v = ⟨root, z⟩ from hz'] at h1'
            exact h1'
          · intro te' t' xs' h; cases h
          · intro w' O' cs' h; rw [he] at h; exact h
        · cases hset
      · cases hset
    | buf te s xs =>
      simp only [OObj.set] at hset
      split at hset
      · rename_i he
        generalize tyEq? (.slice s) root = e at hset
        cases e with
        | none => cases hset
        | some e =>
          obtain ⟨e⟩ := e
          subst e
          simp only [setBuf, Path.setO_eq] at hset
          cases hset
          refine ⟨xs, ?_, hp, rfl, ?_, ?_⟩
          · rw [he]; exact h1
          · intro te' t' xs' h
            cases h
            exact ⟨_, rfl, elm_len p s rfl xs y he⟩
          · intro w' O' cs' h; rw [he] at h; exact h
      · cases hset
  obtain ⟨x, hx, hvx, hb, hbuf, hback⟩ := hroot
  obtain ⟨_, hle⟩ := Path.rep p x cs hx hvx
  have hfit : p.off + 0 + u.cells.toList.length ≤ cur.size := by rw [hlc]; omega
  have hrun := run_storeCells_at P g p.off ty u.cells.toList 0 cur w h2 hfit (RepC.oneCell _ _ _ hc)
  simp only [Nat.add_zero] at hrun
  refine ⟨w.setRow g (over cur.toList p.off u.cells.toList).toArray, ?_, grownBy_row w g _, fun hk => ?_, hb⟩
  · unfold Instr.storeAt Instr.sureAddr storeVar
    simp only [Sem.run_bind, Sem.run_pure, Result.andThen_ok, ht.sizeOf]
    rw [if_neg (by simp only [ne_eq, Decidable.not_not]; rw [← hlc]; simp)]
    exact hrun
  · have hnew := hback _ _ _ (rootRep_keep hk _ _ _ _ (Path.set_rep p x y cs u.cells.toList hx hvx hc))
    have hol : (over cs p.off u.cells.toList).length = cs.length := over_length (by rw [hlc]; exact hle)
    refine h5 _ _ o' _ _ hb hbuf hnew hol ?_ ?_ (setRow_heap w g cur _ ty _ h2)
    · rw [List.size_toArray, over_length (by rw [hlc, Array.length_toList]; omega), Array.length_toList]
    · have e1 : over (cur.toList.take cs.length) p.off u.cells.toList = (over cur.toList p.off u.cells.toList).take cs.length := by
        simp only [over]
        rw [List.take_append, List.take_append, List.take_take, List.drop_take]
        simp only [List.length_take, Array.length_toList, List.length_append, hlc]
        rw [Nat.min_eq_left (show p.off ≤ cs.length by omega), Nat.min_eq_left (show p.off ≤ cur.size by omega), List.take_take, Nat.min_eq_right (show p.off ≤ cs.length by omega), List.take_of_length_le (show u.cells.toList.length ≤ cs.length - p.off by omega)]
      rw [h4] at e1
      rw [e1]
end
end Go.Proofs.YtpepbnieocdpbaaDoor
