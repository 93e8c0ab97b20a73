/-
  What an operation that writes does to a plain state: append to a slice of the call's own, a store, new variables. No program is read here.
  Contracts of functions on typed plain values; operations with calls. A store into something of the call's own. No program is read here.
-/
import Derived.Test.YtbbeldmcdjjnbaaDoorAbsOp
import Derived.Laws.AppendOwnNone
namespace Go.Proofs.YtbbeldmcdjjnbaaDoor
open Go Go.RowKit
set_option linter.unusedSimpArgs false
set_option linter.unusedVariables false

def uses (i : Nat) : (t : Ty) → t.T → Bool
  | .obuf _, j => Nat.beq i j
  | .optr _, p => Nat.beq i p.i
  | .cond t, x => uses i t x.2
  | .hptr, x => Nat.beq i x.1
  | .hcons a b, x => uses i a x.1 || uses i b x.2
  | _, _ => false
def V.kill (i : Nat) (v : V) : V := bif uses i v.t v.x then ⟨.junk, ()⟩ else v
def Frame.kill (i : Nat) : List (Nat × V) → List (Nat × V)
  | [] => []
  | (s, v) :: r => (s, v.kill i) :: Frame.kill i r
theorem Frame.get_kill (i : Nat) (F : Frame) (s : Nat) : Frame.get (Frame.kill i F) s = (Frame.get F s).kill i := by
  induction F with
  | nil => rfl
  | cons p F ih =>
    obtain ⟨d, v⟩ := p
    simp only [Frame.kill, Frame.get_cons, ih]
    split <;> rfl
theorem RepV.other {w : World} {O : Nat → Prop} {β : Nat → Value} {i : Nat} {bv : Value} : ∀ (t : Ty) (x : t.T) (v : Value), uses i t x = false → RepV w O β t x v → RepV w O (fun j => if j = i then bv else β j) t x v := by
  intro t
  induction t with
  | optr t _ =>
    rintro x v hb ⟨g, h1, h2⟩
    have hb' : Nat.beq i x.i = false := hb
    have : x.i ≠ i := fun e => by rw [e] at hb'; simp at hb'
    exact ⟨g, by simp [this, h1], h2⟩
  | obuf t _ =>
    intro x v
    change Nat at x
    intro hb h
    have hb' : Nat.beq i x = false := hb
    have : x ≠ i := fun e => by rw [e] at hb'; simp at hb'
    have h' : v = β x := h
    show v = if x = i then bv else β x
    rw [if_neg this, h']
  | cond t ih => intro x v hb h; exact ⟨fun hc => ih _ _ hb (h.1 hc), h.2⟩
  | hptr =>
    rintro x v hb ⟨g, h1, h2⟩
    have hb' : Nat.beq i x.1 = false := hb
    have : x.1 ≠ i := fun e => by rw [e] at hb'; simp at hb'
    exact ⟨g, by simp [this, h1], h2⟩
  | hcons a b iha ihb =>
    rintro x v hb ⟨u, s, h1, h2, h3, h4⟩
    have hb' : (uses i a x.1 || uses i b x.2) = false := hb
    rw [Bool.or_eq_false_iff] at hb'
    exact ⟨u, s, h1, h2, iha _ _ hb'.1 h3, ihb _ _ hb'.2 h4⟩
  | _ => intro x v hb h; exact h
def OObj.kill (i : Nat) : OObj → OObj
  | .hbox vs => .hbox (vs.map (V.kill i))
  | o => o
def Owns.kill (i : Nat) : List (Nat × Option OObj) → List (Nat × Option OObj)
  | [] => []
  | (j, some (.hbox vs)) :: r => (j, some (.hbox (vs.map (V.kill i)))) :: Owns.kill i r
  | p :: r => p :: Owns.kill i r
theorem Owns.get_kill (i : Nat) (E : Owns) (j : Nat) : Owns.get (Owns.kill i E) j = (Owns.get E j).map (OObj.kill i) := by
  induction E with
  | nil => rfl
  | cons p E ih =>
    obtain ⟨k, o⟩ := p
    have hstep : Owns.kill i ((k, o) :: E) = (k, o.map (OObj.kill i)) :: Owns.kill i E := by
      cases o with
      | none => rfl
      | some o => cases o <;> rfl
    rw [hstep, Owns.get_cons, Owns.get_cons, ih]
    split <;> rfl
theorem OObj.kill_isBuf (i : Nat) (o : OObj) : (o.kill i).isBuf = o.isBuf := by cases o <;> rfl
theorem V.kill_bound (i : Nat) (v : V) : (v.kill i).bound ≤ v.bound := by
  unfold V.kill
  cases uses i v.t v.x with
  | true => exact Nat.zero_le _
  | false => exact Nat.le_refl _
theorem OObj.kill_under {i k : Nat} {o : OObj} (h : o.under k) : (o.kill i).under k := by
  cases o with
  | hbox vs =>
    intro ws e v hv
    cases e
    obtain ⟨u, hu, rfl⟩ := List.mem_map.1 hv
    exact Nat.le_trans (V.kill_bound i u) (h vs rfl u hu)
  | _ => intro ws e; cases e
theorem RepH.kill {w : World} {O : Nat → Prop} {β : Nat → Value} {i : Nat} {bv : Value} : ∀ {vs : List V} {cs : List Value}, RepH w O β vs cs → RepH w O (fun j => if j = i then bv else β j) (vs.map (V.kill i)) cs
  | [], _, h => h
  | v :: r, _, ⟨u, s, h1, h2, h3, h4⟩ => by
    refine ⟨u, s, h1, h2, ?_, RepH.kill h4⟩
    unfold V.kill
    cases hu : uses i v.t v.x with
    | true => trivial
    | false => exact RepV.other _ _ _ hu h3
theorem OwnRep.kill {w : World} {O : Nat → Prop} {β : Nat → Value} {i B : Nat} {bv b' : Value} {o : OObj} (h : OwnRep w O β B b' o) : OwnRep w O (fun j => if j = i then bv else β j) B b' (o.kill i) := by
  cases o with
  | box t x => exact h
  | buf te t xs => exact h
  | hbox vs =>
    obtain ⟨g', cs, ty, e, h1, h2, h3⟩ := h
    exact ⟨g', cs, ty, e, h1, h2, h3.kill⟩
section
variable {w0 : World} {X : Ownr} {n : Nat} {σ : AS} {β : Nat → Value} {a : Act} {w w' : World}
/-- the i-th is made anew: in its old block or in a new one; who held the old one holds nothing -/
theorem Sim.redo (h : Sim w0 X n σ β a w) {i : Nat} {o o' : OObj} (hi : Owns.get σ.E i = some o) (hbuf : o.isBuf = true) (hg : w.grownBy w' (blockOf (β i))) {bv : Value}
    (hbv : ∀ g, blockOf bv = some g → blockOf (β i) = some g ∨ w.heap.size ≤ g)
    (hr : ∀ O β', (∀ g, g < w.heap.size → O g → OSet X σ.E β g) → OwnRep w' O β' 0 bv o') {t : Ty} {d : Nat} (hd : d < n) (hu : o'.under σ.nx := by exact fun _ e => by cases e) :
    ∃ β', Sim w0 X n { F := (d, ⟨.obuf t, i⟩) :: Frame.kill i σ.F, E := (i, some o') :: Owns.kill i σ.E, nx := σ.nx } β' (a.put (some d) bv) w' := by
  refine ⟨fun j => if j = i then bv else β j, ?_⟩
  have hO : ∀ g, g < w.heap.size → OSet X ((i, some o') :: Owns.kill i σ.E) (fun j => if j = i then bv else β j) g → OSet X σ.E β g := fun g hgl hg' => by
    rcases hg' with h1 | ⟨j, oj, h1, h2⟩
    · exact .inl h1
    · rw [Owns.get_cons] at h1
      by_cases hj : i = j
      · subst hj
        simp at h2
        rcases hbv g h2 with h3 | h3
        · exact .inr ⟨i, o, hi, h3⟩
        · omega
      · rw [if_neg hj, Owns.get_kill] at h1
        obtain ⟨pj, hp1, hp2⟩ := Option.map_eq_some_iff.1 h1
        simp [Ne.symm hj] at h2
        exact .inr ⟨j, pj, hp1, h2⟩
  have hkeep : Keeps w w' (OSet X σ.E β) (OSet X ((i, some o') :: Owns.kill i σ.E) (fun j => if j = i then bv else β j)) :=
    ⟨hg.size, fun g hgl hgo => hg.block g hgl fun e => hgo (.inr ⟨i, o, hi, e.symm⟩), hO⟩
  have hold : ∀ {j : Nat} {oj : OObj}, i ≠ j → (if i = j then some o' else Owns.get (Owns.kill i σ.E) j) = some oj → ∃ pj, Owns.get σ.E j = some pj ∧ pj.kill i = oj := fun hs hj => by
    rw [if_neg hs, Owns.get_kill] at hj
    exact Option.map_eq_some_iff.1 hj
  have hbel := h.bel.grown hg fun g e => h.new i o g hi e
  have hii := h.lt i o hi
  refine ⟨?_, ?_, hbel, ?_, ?_, ?_, ?_, ?_, ?_, ?_, ?_⟩
  · rw [Act.put_size]; exact h.sz
  · rw [Act.put_defers]; exact h.df
  · intro s
    rw [Act.put_get (by rw [h.sz]; exact hd)]
    show RepV _ _ _ (Frame.get ((d, ⟨.obuf t, i⟩) :: Frame.kill i σ.F) s).t _ _
    rw [Frame.get_cons]
    by_cases hs : d = s
    · rw [if_pos hs, if_pos hs]
      show bv = if i = i then bv else β i
      rw [if_pos rfl]
    · rw [if_neg hs, if_neg hs, Frame.get_kill]
      unfold V.kill
      cases hu : uses i (Frame.get σ.F s).t (Frame.get σ.F s).x with
      | true => trivial
      | false => exact RepV.other _ _ _ hu (RepV.keep hkeep _ _ _ (h.fr s))
  · intro j oj hj
    rw [show Owns.get ((i, some o') :: Owns.kill i σ.E) j = _ from Owns.get_cons ..] at hj
    by_cases hs : i = j
    · subst hs
      rw [if_pos rfl] at hj
      cases hj
      show OwnRep _ _ _ _ (if i = i then bv else _) _
      rw [if_pos rfl]
      exact hr _ _ hO
    · obtain ⟨pj, hj2, rfl⟩ := hold hs hj
      show OwnRep _ _ _ _ (if j = i then bv else _) _
      rw [if_neg (Ne.symm hs)]
      refine ((h.own j pj hj2).keep hkeep fun g hgb => hg.block g ((h.own j pj hj2).block_lt hgb).2 fun e => ?_).kill
      exact h.inj i j o pj hi hj2 hs g e.symm hgb
  · intro j oj g hj
    rw [show Owns.get ((i, some o') :: Owns.kill i σ.E) j = _ from Owns.get_cons ..] at hj
    show blockOf (if j = i then bv else β j) = some g → _
    by_cases hs : i = j
    · rw [if_pos hs.symm]
      intro hb1
      rcases hbv g hb1 with h3 | h3
      · exact h.new i o g hi h3
      · exact .inl (Nat.le_trans h.bel.size h3)
    · obtain ⟨pj, hj2, rfl⟩ := hold hs hj
      rw [if_neg (Ne.symm hs)]
      exact h.new j pj g hj2
  · intro j k oj ok hj hk hjk g
    rw [show Owns.get ((i, some o') :: Owns.kill i σ.E) j = _ from Owns.get_cons ..] at hj
    rw [show Owns.get ((i, some o') :: Owns.kill i σ.E) k = _ from Owns.get_cons ..] at hk
    show blockOf (if j = i then bv else β j) = some g → blockOf (if k = i then bv else β k) ≠ some g
    have fresh : ∀ m om, i ≠ m → Owns.get σ.E m = some om → blockOf bv = some g → blockOf (β m) ≠ some g := fun m om hm hmo hb1 hb2 => by
      rcases hbv g hb1 with h3 | h3
      · exact h.inj i m o om hi hmo hm g h3 hb2
      · have := ((h.own m om hmo).block_lt hb2).2
        omega
    by_cases h1 : i = j
    · by_cases h2 : i = k
      · omega
      · obtain ⟨pk, hk2, rfl⟩ := hold h2 hk
        rw [if_pos h1.symm, if_neg (Ne.symm h2)]
        exact fresh k pk h2 hk2
    · obtain ⟨pj, hj2, rfl⟩ := hold h1 hj
      rw [if_neg (Ne.symm h1)]
      by_cases h2 : i = k
      · rw [if_pos h2.symm]
        exact fun hb1 hb2 => fresh j pj h1 hj2 hb2 hb1
      · obtain ⟨pk, hk2, rfl⟩ := hold h2 hk
        rw [if_neg (Ne.symm h2)]
        exact h.inj j k pj pk hj2 hk2 hjk g
  · intro j oj hj
    rw [show Owns.get ((i, some o') :: Owns.kill i σ.E) j = _ from Owns.get_cons ..] at hj
    by_cases hs : i = j
    · exact hs ▸ hii
    · obtain ⟨pj, hj2, rfl⟩ := hold hs hj
      exact h.lt j pj hj2
  · refine ⟨h.fix.1, fun j hj => ?_⟩
    obtain ⟨h2, h3⟩ := h.fix.2 j hj
    have hs : i ≠ j := fun e => by subst e; have := h3 o hi; rw [hbuf] at this; cases this
    refine ⟨?_, fun oj ho => ?_⟩
    · show blockOf (if j = i then bv else β j) = some (X.fix j)
      rw [if_neg (Ne.symm hs)]
      exact h2
    · rw [show Owns.get ((i, some o') :: Owns.kill i σ.E) j = _ from Owns.get_cons ..] at ho
      obtain ⟨pj, hj2, rfl⟩ := hold hs ho
      rw [OObj.kill_isBuf]
      exact h3 pj hj2
  · intro s
    show (Frame.get ((d, ⟨.obuf t, i⟩) :: Frame.kill i σ.F) s).bound ≤ σ.nx
    rw [Frame.get_cons]
    by_cases hs : d = s
    · rw [if_pos hs]
      show i + 1 ≤ σ.nx
      omega
    · rw [if_neg hs, Frame.get_kill]
      unfold V.kill
      cases uses i (Frame.get σ.F s).t (Frame.get σ.F s).x with
      | true => exact Nat.zero_le _
      | false => exact h.hb s
  · intro j oj hj
    rw [show Owns.get ((i, some o') :: Owns.kill i σ.E) j = _ from Owns.get_cons ..] at hj
    by_cases hs : i = j
    · rw [if_pos hs] at hj; cases hj; exact hu
    · obtain ⟨pj, hj2, rfl⟩ := hold hs hj
      exact OObj.kill_under (h.hE j pj hj2)
end

/-! ### append -/
section
variable {P : Program} {w : World} {O O' : Nat → Prop} {β : Nat → Value}
theorem blockOf_ownBlock {bv : Value} {w : World} {B e s n : Nat} {cs : List Value} (h : w.ownsRow B e s bv n cs) : bv.ownBlock = blockOf bv := by
  rcases h.2 with ⟨rfl, _⟩ | ⟨g, cap, cur, rfl, _⟩ <;> rfl
/-- what is read as a list, its elements known -/
theorem src_rep {E : Owns} {B : Nat} (hown : ∀ i o, Owns.get E i = some o → OwnRep w O β B (β i) o) {v : V} {τ : Ty} {ys : List τ.T} (hd : dat E v = ⟨.slice τ, ys⟩) {u : Value} (h : RepV w O β v.t v.x u) : RepS w (fun _ => False) (RepC w O τ) ys u := by
  obtain ⟨t, x⟩ := v
  cases t <;> simp only [dat] at hd <;> first | (cases hd; done) | skip
  · cases hd
    exact (RepV.slice h).keep .of_false fun _ _ h => h
  · split at hd
    · rename_i te t' xs he
      cases hd
      have h' : u = β x := h
      subst h'
      obtain ⟨cs, h1, h2, h3⟩ := hown x _ he
      rcases h2.2 with ⟨e, h4⟩ | ⟨g, cap, cur, e, h5, h6, h7, h8, h9, h10⟩
      · have : ys = [] := List.eq_nil_of_length_eq_zero h4
        subst this
        exact .inl ⟨rfl, none, 0, e, by simp [maxLen]⟩
      · by_cases hx : ys = []
        · subst hx
          exact .inl ⟨rfl, some ⟨g, 0, none⟩, cap, e, h8⟩
        · refine .inr ⟨g, 0, cap, cs, e, hx, h7, h8, (Array.getElem?_eq_some_iff.1 h6).1, fun h => h.elim, h1, fun j u hu => ?_⟩
          rw [Nat.zero_add]
          unfold World.cell?
          rw [h6]
          simp only [Option.isSome_none, Bool.false_eq_true, if_false]
          rw [← h10, List.getElem?_take] at hu
          split at hu
          · simpa using hu
          · cases hu
    · cases hd
/-- append of a list that is read, to a slice of the call's own -/
theorem append_run {t e : TypeId} {τ : Ty} (ht : P.underlying t = some (.slice e)) (he : Lay P τ (.inl e)) (hbig : 24 * τ.size ≤ 100000) (ty : TypeId) {B : Nat} (hB : B ≤ w.heap.size) {bv : Value} {xs ys : List τ.T} (hown : OwnRep w O β B bv (.buf e τ xs))
    (hOb : ∀ g, blockOf bv = some g → O g) {u : Value} (hu : RepS w (fun _ => False) (RepC w O τ) ys u) (hlen : xs.length + ys.length ≤ 1000000000) :
    ∃ v' w', (Builtin.append_ #[t, t] ty #[bv, u]).run P w = .ok v' w' ∧ w.grownBy w' (blockOf bv) ∧ (∀ g, blockOf v' = some g → blockOf bv = some g ∨ w.heap.size ≤ g) ∧
      ∀ O2, (∀ g, g < w.heap.size → O2 g → O g) → OwnRep w' O2 β B v' (.buf e τ (xs ++ ys)) := by
  obtain ⟨cs, h1, h2, h3⟩ := hown
  obtain ⟨i, z, hi, hs, hz, hzc, hby⟩ := he.info
  have hzs : z.cells.size = τ.size := by rw [hzc]; simp [zcells_length τ he.data]
  have h63 : xs.length + ys.length ≤ maxLen := by simp only [maxLen]; omega
  have hbytes : (xs.length + ys.length) * i.bytes ≤ 140737488355328 := by
    have h4 : i.bytes ≤ 100000 := by omega
    have h5 := Nat.mul_le_mul hlen h4
    omega
  have hob := blockOf_ownBlock h2
  have fin : ∀ (ad : Addr) (c : Nat) (news : List Value), u = .slice (some ad) ys.length c → RepL (RepC w O τ) ys news → (∀ (j : Nat) (x : Value), news[j]? = some x → w.cell? (ad.add j) = some x) → ∃ v' w', (Builtin.append_ #[t, t] ty #[bv, u]).run P w = .ok v' w' ∧ w.grownBy w' (blockOf bv) ∧ (∀ g, blockOf v' = some g → blockOf bv = some g ∨ w.heap.size ≤ g) ∧
      ∀ O2, (∀ g, g < w.heap.size → O2 g → O g) → OwnRep w' O2 β B v' (.buf e τ (xs ++ ys)) := by
    intro ad c news hu hr hc
    subst hu
    have hl := hr.len (fun x c => RepC.len τ x c)
    have h1c := hr.all (p := fun u => u.oneCell' = true) (fun x c => RepC.oneCell τ x c)
    obtain ⟨v', w', k1, k2, k3, k4⟩ := run_append_own (P := P) w B t ty e i z τ.size i.bytes ht hi hz hs rfl hzs h3 bv xs.length cs h2 ad ys.length c news hl hc h1c h63 hbytes hB
    refine ⟨v', w', k1, hob ▸ k3, ?_, fun O2 hO2 => ⟨cs ++ news, ?_, by rw [List.length_append]; exact k2, h3⟩⟩
    · intro g hg
      rcases h2.2 with ⟨rfl, hn⟩ | ⟨g', cap, cur, rfl, hbg, hg', hnc, hcm, hcs, htake⟩
      · by_cases hm : ys.length = 0
        · have := k4.2 ⟨rfl, hm⟩
          rw [this] at hg
          cases hg
        · have hr2 := run_append_nil (P := P) w t ty e i z ht hi hz ad ys.length c news (by rw [hl, hs]) hc (by omega) (by simp only [maxLen] at h63; omega) (by have h8 := Nat.mul_le_mul (show ys.length ≤ xs.length + ys.length by omega) (Nat.le_refl i.bytes); omega)
          rw [hr2] at k1
          cases k1
          cases hg
          exact .inr (Nat.le_refl _)
      · by_cases hroom : xs.length + ys.length ≤ cap
        · have hfit : xs.length * i.size + news.length ≤ cur.size := by rw [hl, hcs, hs, ← Nat.add_mul]; exact Nat.mul_le_mul_right _ hroom
          have hr2 := run_append_room (P := P) w t ty e i ht hi g' xs.length cap cur hg' ad ys.length c news (by rw [hl, hs]) hc h1c hroom hfit
          rw [hr2] at k1
          cases k1
          exact .inl hg
        · have holds : ∀ j u, cs[j]? = some u → w.cell? ((⟨g', 0, none⟩ : Addr).add j) = some u := h2.cells (g := g') rfl
          have hr2 := run_append_grow (P := P) w t ty e i z ht hi hz ⟨g', 0, none⟩ xs.length cap cs (by rw [h2.1, hs]) holds ad ys.length c news (by rw [hl, hs]) hc (by omega) (by simp only [maxLen] at h63; omega) (growslice_fits (by omega) hbytes)
          rw [hr2] at k1
          cases k1
          cases hg
          exact .inr (Nat.le_refl _)
    · have hk : Keeps w w' O O2 := ⟨k3.size, fun g hgl hgo => k3.block g hgl fun e => hgo (hOb g (by rw [← hob]; exact e.symm)), hO2⟩
      exact (h1.append hr).mono fun x _ c => RepC.keep hk _ _ _
  rcases hu with ⟨rfl, A, c, rfl, hc⟩ | ⟨g, off, c, vs, rfl, hx, h5, h6, h7, _, h9, h10⟩
  · cases A with
    | some ad => exact fin ad c [] rfl rfl (fun j x hj => by simp at hj)
    | none =>
      have hrun : (Builtin.append_ #[t, t] ty #[bv, .slice none 0 c]).run P w = .ok bv w := by
        rcases h2.2 with ⟨rfl, _⟩ | ⟨g', cap, cur, rfl, hbg, hg', hnc, hcm, hcs, htake⟩
        · simp [Builtin.append_, run_underlying ht, Go.sizeOf, typeInfo, hi, Builtin.lenOf, Builtin.firstCells]
        · simp [Builtin.append_, run_underlying ht, Go.sizeOf, typeInfo, hi, Builtin.lenOf, Builtin.firstCells, hnc, storeCells]
      refine ⟨bv, w, hrun, ⟨rfl, rfl, rfl, Nat.le_refl _, fun _ _ _ => rfl⟩, fun g hg => .inl hg, fun O2 hO2 => ⟨cs, ?_, by simpa using h2, h3⟩⟩
      rw [List.append_nil]
      exact h1.mono fun x _ c => RepC.keep ⟨Nat.le_refl _, fun _ _ _ => rfl, hO2⟩ _ _ _
  · exact fin ⟨g, off, none⟩ c vs rfl h9 (fun j x hj => by rw [Addr.add_mid]; exact h10 j x hj)
end
end Go.Proofs.YtbbeldmcdjjnbaaDoor
namespace Go.Proofs.YtbbeldmcdjjnbaaDoor
open Go Go.RowKit
set_option linter.unusedSimpArgs false
set_option linter.unusedVariables false

@[reducible] def Args : List Ty → Type
  | [] => Unit
  | t :: r => t.T × Args r
def RepA (w : World) (O : Nat → Prop) : (ts : List Ty) → Args ts → List Value → Prop
  | [], _, vs => vs = []
  | t :: r, x, vs => ∃ v s, vs = v :: s ∧ RepV w O (fun _ => undef) t x.1 v ∧ RepA w O r x.2 s
/-- what a call comes back with: a value, or a slice in new memory that nobody else holds -/
def ResRel (w : World) (O : Nat → Prop) (B : Nat) (own : Option TypeId) : (t : Ty) → t.T → Value → Prop
  | .slice τ, xs, v => match own with
    | some te => OwnRep w (fun g => O g ∨ blockOf v = some g) (fun _ => undef) B v (.buf te τ xs)
    | none => RepD w O (.slice τ) xs v
  | t, x, v => ∀ β, RepV w O β t x v
structure Ctr where
  args : List Ty
  pre : Args args → List Prop
  res : Ty
  own : Option TypeId
  out : Args args → res.T
def CtrOk (P : Program) (G : World → Prop) (f : FuncId) (c : Ctr) : Prop :=
  (∀ (as : Array Value) (w : World), (callFunc f as).run P w = .ok (.enter f as) w) ∧
  ∀ (w : World) (O : Nat → Prop) (xs : Args c.args) (vs : List Value), (∀ g, O g → g < w.heap.size) → RepA w O c.args xs vs → allP (c.pre xs) → G w →
    Calls P f vs.toArray w fun e w' => ∃ v, e = .returned v ∧ Below w.heap.size w w' ∧ ResRel w' O w.heap.size c.own c.res (c.out xs) v
abbrev Ctrs := List (FuncId × Ctr)
def cget : List (FuncId × Ctr) → FuncId → Option Ctr
  | [], _ => none
  | (g, c) :: r, f => bif Nat.beq g f then some c else cget r f
def CsOk (P : Program) (G : World → Prop) (C : Ctrs) : Prop := ∀ f c, cget C f = some c → CtrOk P G f c

def Ty.flat : Ty → Bool
  | .bool | .int _ | .str | .unit => true
  | .pair a b => a.flat && b.flat
  | .arr _ t => t.flat
  | .tup a b => a.flat && b.flat
  | _ => false
def argsV (E : Owns) (fl : Bool) : List V → (ts : List Ty) → Option (List Prop × Args ts)
  | [], [] => some ([], ())
  | v :: vs, t :: ts =>
    match coe t (bif fl then dat E (strip v).2 else (strip v).2), argsV E fl vs ts with
    | some x, some (p, xs) => some ((strip v).1 ++ p, (x, xs))
    | _, _ => none
  | _, _ => none
def Ctr.fl (c : Ctr) : Bool := c.res.flat
/-- what may be handed in -/
def Ty.argOk : Ty → Bool
  | .vptr t => t.data
  | .clo _ _ => true
  | .mapL => true
  | .lit => true
  | t => t.data
def allData : List Ty → Bool
  | [] => true
  | t :: r => t.argOk && allData r
/-- what a literal takes along, as further arguments -/
def capsV : (t : Ty) → t.T → List V
  | .tup a b, x => ⟨a, x.1⟩ :: capsV b x.2
  | _, _ => []
/-- the function that is called, and what it takes along -/
def litFn : Value → Option (FuncId × List V)
  | .func (.func f) a b => match a.toList, b.toList with
    | [], [] => some (f, [])
    | _, _ => none
  | _ => none
def calleeV (F : Frame) (x : Operand) : Option (FuncId × List V) :=
  match evO F x with
  | ⟨.lit, y⟩ => litFn y
  | ⟨.clo f t, y⟩ => some (f, capsV t y)
  | ⟨.cond .lit, (true, y)⟩ => litFn y
  | _ => none
/-- a call by its contract -/
def callV (C : Ctrs) (E : Owns) (f : FuncId) (vs : List V) : Option (List Prop × (c : Ctr) × Args c.args) :=
  match cget C f with
  | some c => if allData c.args then (match argsV E c.fl vs c.args with | some ([], xs) => some (c.pre xs, ⟨c, xs⟩) | some (p :: q, xs) => some (p :: q ++ c.pre xs, ⟨c, xs⟩) | none => none) else none
  | none => none
/-- operations that read, compute, call -/
noncomputable def cOp (T : Tbl) (Q : List TypeId) (C : Ctrs) (E : Owns) (F : Frame) (op : Op) : Res :=
  match op with
  | .call ⟨.value x, args, _⟩ => match calleeV F x with
    | some (f, cs) => match callV C E f (args.toList.map (evO F) ++ cs) with
      | some (p, ⟨c, xs⟩) => match c.own with
        | none => some (p, ⟨c.res, c.out xs⟩)
        | some _ => match c.res, c.out xs with
          | .slice τ, ys => some (p, ⟨.slice τ, ys⟩)
          | _, _ => none
      | none => none
    | none => none
  | op => pOp T Q E F op

section
variable {P : Program} {w w' : World} {O O' : Nat → Prop} {β : Nat → Value} {T : Tbl} {Q : List TypeId} {C : Ctrs} {E : Owns} {F : Frame} {B : Nat} {a : Act}

theorem repC_flat : ∀ (t : Ty), t.flat = true → ∀ (x : t.T) (cs : List Value), RepC w O t x cs → RepC w' O' t x cs := by
  intro t
  induction t with
  | pair a b iha ihb =>
    intro h x cs
    simp only [Ty.flat, Bool.and_eq_true] at h
    rintro ⟨c1, c2, h0, h1, h2⟩
    exact ⟨c1, c2, h0, iha h.1 _ _ h1, ihb h.2 _ _ h2⟩
  | arr n t ih =>
    intro h x cs
    rintro ⟨h1, h2⟩
    exact ⟨h1, h2.mono fun x _ c => ih h x c⟩
  | bool => intro _ x cs h; exact h
  | int => intro _ x cs h; exact h
  | str => intro _ x cs h; exact h
  | unit => intro _ x cs h; exact h
  | tup => intro _ x cs h; exact absurd h (by simp [RepC])
  | _ => intro h; cases h
theorem repD_flat {t : Ty} (ht : t.flat = true) {x : t.T} {v : Value} (h : RepD w O t x v) : RepD w' O' t x v := by
  unfold RepD at *
  split at h
  · rename_i hd
    rw [if_pos hd]
    obtain ⟨cs, h1, h2⟩ := h
    exact ⟨cs, h1, repC_flat t ht _ _ h2⟩
  · rename_i hd
    rw [if_neg hd]
    exact repC_flat t ht _ _ h
theorem repTup_flat : ∀ (t : Ty), t.flat = true → ∀ (x : t.T) (vs : List Value), RepTup w O t x vs → RepTup w' O' t x vs := by
  intro t
  induction t with
  | tup a b iha ihb =>
    intro h x vs
    simp only [Ty.flat, Bool.and_eq_true] at h
    rintro ⟨v, r, h0, h1, h2⟩
    exact ⟨v, r, h0, repD_flat h.1 h1, ihb h.2 _ _ h2⟩
  | unit => intro _ x vs h; exact h
  | _ => intro _ x vs h; exact absurd h (by simp [RepTup])
theorem repV_flat {t : Ty} (ht : t.flat = true) {x : t.T} {v : Value} (h : RepV w O β t x v) : RepV w' O' β t x v := by
  cases t <;> first
    | exact repD_flat ht h
    | (cases ht; done)
    | (obtain ⟨vs, h1, h2⟩ := h; exact ⟨vs, h1, repTup_flat _ ht _ _ h2⟩)
theorem coe_repV {t : Ty} {v : V} {y : t.T} (h : coe t v = some y) {u : Value} (hr : RepV w O β v.t v.x u) : RepV w O β t y u := by
  rcases coe_spec h with rfl | ⟨rfl, τ, he⟩
  · exact hr
  · cases he
    have : u = .slice none 0 0 := hr
    subst this
    exact RepV.ofSlice (.inl ⟨rfl, none, 0, rfl, by simp⟩)
theorem repV_beta {t : Ty} (ht : t.argOk = true) {β' : Nat → Value} {x : t.T} {u : Value} (h : RepV w O β t x u) : RepV w O β' t x u := by
  cases t <;> first | exact h | (cases ht; done)
theorem argsV_rep (hown : ∀ i o, Owns.get E i = some o → OwnRep w O β B (β i) o) {fl : Bool} : ∀ {vs : List V} {ts : List Ty} {r : List Prop × Args ts} {us : List Value}, allData ts = true → argsV E fl vs ts = some r → allP r.1 →
    (∀ (i : Nat) (v : V), vs[i]? = some v → ∃ u, us[i]? = some u ∧ RepV w O β v.t v.x u) → us.length = vs.length → RepA w (fun g => fl = false ∧ O g) ts r.2 us
  | [], [], r, us, _, h, _, _, hl => List.eq_nil_of_length_eq_zero hl
  | v :: vs, t :: ts, r, us, hd, h, hp, hu, hl => by
    simp only [argsV] at h
    split at h
    · rename_i x p' xs' hc hr
      cases h
      simp only [allP_append] at hp
      simp only [allData, Bool.and_eq_true] at hd
      match us, hl with
      | u :: us, hl =>
        refine ⟨u, us, rfl, ?_, argsV_rep hown hd.2 hr hp.2 (fun i v hv => hu (i + 1) v hv) (by simpa using hl)⟩
        obtain ⟨u', hu', hrep⟩ := hu 0 v rfl
        cases hu'
        have h1 := strip_rep hrep hp.1
        cases fl with
        | true =>
          have := repV_beta (β' := fun _ => undef) hd.1 (coe_repV hc (dat_rep hown h1))
          exact RepV.keep ⟨Nat.le_refl _, fun _ _ _ => rfl, fun g _ h => by simp at h⟩ _ _ _ this
        | false =>
          have := repV_beta (β' := fun _ => undef) hd.1 (coe_repV hc h1)
          exact RepV.keep ⟨Nat.le_refl _, fun _ _ _ => rfl, fun g _ h => h.2⟩ _ _ _ this
    · cases h
  | [], _ :: _, _, _, _, h, _, _, _ => by cases h
  | _ :: _, [], _, _, _, h, _, _, _ => by cases h
theorem resRel_repV : ∀ (t : Ty) (x : t.T) (v : Value), ResRel w O B none t x v → RepV w O β t x v := by
  intro t
  cases t <;> intro x v h <;> first | exact h β | exact repD_repV h
/-- a call of a Go function -/
theorem wp_enterV {o : Oper} {x : Operand} {f : FuncId} {us : List Value} {args : Array Operand} {ts : Array TypeId} {K : Act → World → Prop} {R : Exit → Act → World → Prop} (ho : o.op = .call ⟨.value x, args, ts⟩) (hx : a.eval x = .func (.func f) #[] us.toArray) (hen : ∀ (as : Array Value) (w : World), (callFunc f as).run P w = .ok (.enter f as) w)
    (h : Calls P f (args.toList.map a.eval ++ us).toArray w fun e w' => ∃ v, e = .returned v ∧ K (a.put o.dst v) w') : o.wp P a w K R := by
  unfold Oper.wp
  have em : (args.toList.map a.eval ++ us).toArray = args.map a.eval ++ us.toArray := by
    rw [← map_toArr]
    simp
  rw [em] at h
  have e : (execOp a.eval o).run P w = .ok (.enter f (args.map a.eval ++ us.toArray)) w := by
    unfold execOp
    simp [ho, resolve, invoke, Deferred.ofValue, hx, hen]
  rw [e]
  show Calls P f (args.map a.eval ++ us.toArray) w _
  refine h.mono fun e w' ⟨v, he, hk⟩ => ?_
  subst he
  exact hk
theorem wp_enter {o : Oper} {f : FuncId} {args : Array Operand} {ts : Array TypeId} {K : Act → World → Prop} {R : Exit → Act → World → Prop} (ho : o.op = .call ⟨.value (.func f), args, ts⟩) (hen : ∀ (as : Array Value) (w : World), (callFunc f as).run P w = .ok (.enter f as) w)
    (h : Calls P f (args.toList.map a.eval).toArray w fun e w' => ∃ v, e = .returned v ∧ K (a.put o.dst v) w') : o.wp P a w K R :=
  wp_enterV (us := []) ho rfl hen (by rw [List.append_nil]; exact h)
/-- what stands for values, one by one -/
def RepVs (w : World) (O : Nat → Prop) (β : Nat → Value) (vs : List V) (us : List Value) : Prop := us.length = vs.length ∧ ∀ (i : Nat) (v : V), vs[i]? = some v → ∃ u, us[i]? = some u ∧ RepV w O β v.t v.x u
theorem RepVs.append {vs ws : List V} {us ys : List Value} (h : RepVs w O β vs us) (h' : RepVs w O β ws ys) : RepVs w O β (vs ++ ws) (us ++ ys) := by
  refine ⟨by simp [h.1, h'.1], fun i v hv => ?_⟩
  rw [List.getElem?_append] at hv
  split at hv
  · rename_i hlt
    obtain ⟨u, h1, h2⟩ := h.2 i v hv
    exact ⟨u, by rw [List.getElem?_append, if_pos (by rw [h.1]; exact hlt)]; exact h1, h2⟩
  · rename_i hge
    obtain ⟨u, h1, h2⟩ := h'.2 _ v hv
    exact ⟨u, by rw [List.getElem?_append, if_neg (by rw [h.1]; exact hge), h.1]; exact h1, h2⟩
theorem repVs_caps : ∀ (t : Ty) (x : t.T) (us : List Value), RepCap w O t x us → RepVs w O β (capsV t x) us := by
  intro t
  induction t with
  | tup a b iha ihb =>
    rintro x us ⟨v, r, rfl, h1, h2⟩
    obtain ⟨i1, i2⟩ := ihb _ _ h2
    refine ⟨by simp [capsV, i1], fun i y hy => ?_⟩
    cases i with
    | zero =>
      cases hy
      refine ⟨v, rfl, ?_⟩
      cases a <;> first | exact h1.elim | exact h1
    | succ i =>
      obtain ⟨u, h3, h4⟩ := i2 i y (by simpa [capsV] using hy)
      exact ⟨u, by simpa using h3, h4⟩
  | unit =>
    intro x us h
    have : us = [] := h
    subst this
    exact ⟨rfl, fun i v hv => by simp [capsV] at hv⟩
  | _ => intro x us h; exact absurd h (by simp [RepCap])
theorem litFn_spec {y : Value} {f : FuncId} {cs : List V} (h : litFn y = some (f, cs)) : y = .func (.func f) #[] #[] ∧ cs = [] := by
  cases y <;> first | (cases h; done) | skip
  rename_i fn p q
  cases fn <;> first | (cases h; done) | skip
  rename_i g
  obtain ⟨p⟩ := p
  obtain ⟨q⟩ := q
  cases p <;> cases q <;> first | (cases h; done) | skip
  cases h
  exact ⟨rfl, rfl⟩
theorem calleeV_rep {x : Operand} {f : FuncId} {cs : List V} (h : calleeV F x = some (f, cs)) (hx : RepV w O β (evO F x).t (evO F x).x (a.eval x)) : ∃ us, a.eval x = .func (.func f) #[] (List.toArray us) ∧ RepVs w O β cs us := by
  unfold calleeV at h
  split at h
  · rename_i y he
    rw [he] at hx
    have hx : a.eval x = y := hx
    obtain ⟨rfl, rfl⟩ := litFn_spec h
    exact ⟨[], hx, rfl, fun i v hv => by simp at hv⟩
  · rename_i g t y he
    cases h
    rw [he] at hx
    obtain ⟨us, h1, h2⟩ := hx
    exact ⟨us, h1, repVs_caps _ _ _ h2⟩
  · rename_i y he
    rw [he] at hx
    have hx : a.eval x = y := hx.1 rfl
    obtain ⟨rfl, rfl⟩ := litFn_spec h
    exact ⟨[], hx, rfl, fun i v hv => by simp at hv⟩
  · cases h
theorem opArgs {x : Operand} {args : Array Operand} {ts : Array TypeId} (hops : ∀ y ∈ (Op.call ⟨.value x, args, ts⟩).operands, RepV w O β (evO F y).t (evO F y).x (a.eval y)) :
    RepVs w O β (args.toList.map (evO F)) (args.toList.map a.eval) := by
  refine ⟨by simp, fun i v hv => ?_⟩
  rw [List.getElem?_map] at hv
  obtain ⟨y, hy, rfl⟩ := Option.map_eq_some_iff.1 hv
  have hm : y ∈ args.toList := List.mem_of_getElem? hy
  exact ⟨a.eval y, by rw [List.getElem?_map, hy]; rfl, hops y (by simp [Op.operands, Call.operands]; exact .inr (by simpa using hm))⟩
/-- a call by its contract: the result as the contract says -/
theorem callV_wp {G : World → Prop} (hC : CsOk P G C) (hG : G w) (hO : ∀ g, O g → g < w.heap.size) (hown : ∀ i o, Owns.get E i = some o → OwnRep w O β B (β i) o) {o : Oper} {x : Operand} {f : FuncId} {cs : List V} {args : Array Operand} {ts : Array TypeId} (ho : o.op = .call ⟨.value x, args, ts⟩) (hcal : calleeV F x = some (f, cs))
    {r : List Prop × (c : Ctr) × Args c.args} (h : callV C E f (args.toList.map (evO F) ++ cs) = some r) (hp : allP r.1) (hops : ∀ x ∈ o.op.operands, RepV w O β (evO F x).t (evO F x).x (a.eval x)) {K : Act → World → Prop} {R : Exit → Act → World → Prop}
    (hK : ∀ v w', Below w.heap.size w w' → ResRel w' (fun g => r.2.1.fl = false ∧ O g) w.heap.size r.2.1.own r.2.1.res (r.2.1.out r.2.2) v → K (a.put o.dst v) w') : o.wp P a w K R := by
  unfold callV at h
  split at h
  · rename_i c hc
    split at h
    · rename_i hd
      obtain ⟨p, xs, h1, h⟩ : ∃ p xs, argsV E c.fl (args.toList.map (evO F) ++ cs) c.args = some (p, xs) ∧ (p ++ c.pre xs, (⟨c, xs⟩ : (c : Ctr) × Args c.args)) = r := by
        split at h <;> first | (cases h; done) | skip
        · rename_i xs h1; cases h; exact ⟨_, _, h1, rfl⟩
        · rename_i p q xs h1; cases h; exact ⟨_, _, h1, rfl⟩
      subst h
      simp only [allP_append] at hp
      rw [ho] at hops
      obtain ⟨us, hx, hcs⟩ := calleeV_rep hcal (hops x (by simp [Op.operands, Call.operands]))
      obtain ⟨q1, q2⟩ := (opArgs hops).append hcs
      have ha := argsV_rep hown hd h1 hp.1 q2 q1
      obtain ⟨hen, hcall⟩ := hC f c hc
      refine wp_enterV ho hx hen ((hcall w (fun g => c.fl = false ∧ O g) xs _ (fun g h => hO g h.2) ha hp.2 hG).mono fun e w' ⟨v, he, hb, hr⟩ => ⟨v, he, hK v w' hb hr⟩)
    · cases h
  · cases h
theorem OwnRep.toView {bv : Value} {te : TypeId} {τ : Ty} {xs : List τ.T} {O2 : Nat → Prop} (h : OwnRep w' O' β B bv (.buf te τ xs)) (hO2 : ∀ g, g < w'.heap.size → O2 g → O' g) (hlt : ∀ g, O2 g → g < B) : RepD w' O2 (.slice τ) xs bv :=
  h.view hO2 fun g hg hg' => by
    have := (h.block_lt hg).1
    have := hlt g hg'
    omega
theorem cOp_wp (hT : TOk P T Q) {G : World → Prop} (hC : CsOk P G C) (hG : G w) (hO : ∀ g, O g → g < w.heap.size) (hown : ∀ i o, Owns.get E i = some o → OwnRep w O β B (β i) o) {o : Oper} {r : List Prop × V} (h : cOp T Q C E F o.op = some r) (hp : allP r.1)
    (hops : ∀ x ∈ o.op.operands, RepV w O β (evO F x).t (evO F x).x (a.eval x)) {K : Act → World → Prop} {R : Exit → Act → World → Prop}
    (hK : ∀ u w', Below w.heap.size w w' → RepV w' O β r.2.t r.2.x u → K (a.put o.dst u) w') : o.wp P a w K R := by
  have plain : pOp T Q E F o.op = some r → o.wp P a w K R := fun h => by
    obtain ⟨u, w', h1, h2, h3⟩ := pOp_yields hT hO hown h hp hops
    unfold Oper.wp
    rw [h1]
    exact hK u w' h2 h3
  generalize hop : o.op = op at h
  unfold cOp at h
  split at h
  · rename_i x args ts
    split at h <;> first | (cases h; done) | skip
    rename_i f cs hcal
    split at h <;> first | (cases h; done) | skip
    rename_i p c xs h1
    have h2 := h
    split at h2
    · rename_i hown0
      cases h2
      refine callV_wp hC hG hO hown hop hcal h1 hp hops fun v w' hb hr => hK v w' hb ?_
      simp only [hown0] at hr
      have hr' : RepV w' (fun g => c.fl = false ∧ O g) β c.res (c.out xs) v := resRel_repV _ _ _ hr
      cases hfl : c.fl with
      | true => exact repV_flat hfl hr'
      | false =>
        rw [hfl] at hr'
        exact RepV.keep ⟨Nat.le_refl _, fun _ _ _ => rfl, fun g _ h => ⟨rfl, h⟩⟩ _ _ _ hr'
    · rename_i te hown0
      split at h2
      · rename_i τ ys hres hout
        cases h2
        have hnf : c.fl = false := by unfold Ctr.fl; rw [hres]; rfl
        refine callV_wp hC hG hO hown hop hcal h1 hp hops fun v w' hb hr => hK v w' hb ?_
        simp only [hown0] at hr
        have hr' : OwnRep w' (fun g => (c.fl = false ∧ O g) ∨ blockOf v = some g) β w.heap.size v (.buf te τ ys) := by
          revert hr
          generalize c.out xs = x at hout ⊢
          revert x
          rw [hres]
          intro x hx hr
          cases hx
          exact hr
        exact repD_repV (hr'.toView (fun g _ h => .inl ⟨hnf, h⟩) fun g h => hO g h)
      · cases h2
  · exact plain (by rw [hop]; exact h)
end
end Go.Proofs.YtbbeldmcdjjnbaaDoor
