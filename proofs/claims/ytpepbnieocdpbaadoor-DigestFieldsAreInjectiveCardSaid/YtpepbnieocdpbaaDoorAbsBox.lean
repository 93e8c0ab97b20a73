/-
  A variable of the call's own that is written no more is given away: pointers to it become pointers to what stays. A copy into an array variable. No program is read here.
-/
import Derived.Test.YtpepbnieocdpbaaDoorAbsCode
import Derived.Laws.CopyOwn
namespace Go.Proofs.YtpepbnieocdpbaaDoor
open Go Go.RowKit
set_option linter.unusedSimpArgs false
set_option linter.unusedVariables false

def thawP {r τ : Ty} (t : Ty) (x : t.T) : Path r τ → V
  | .here => match tyEq? r t with
    | some _ => ⟨.vptr t, x⟩
    | none => ⟨.junk, ()⟩
  | _ => ⟨.junk, ()⟩
/-- what a slot's value becomes when the i-th variable is given away -/
def thawB (i : Nat) (t : Ty) (x : t.T) (v : V) : V :=
  match v with
  | ⟨.optr _, ⟨j, _, p⟩⟩ => bif Nat.beq i j then thawP t x p else v
  | v => v.kill i
def Frame.thawB (i : Nat) (t : Ty) (x : t.T) : List (Nat × V) → List (Nat × V)
  | [] => []
  | (s, v) :: r => (s, Go.Proofs.YtpepbnieocdpbaaDoor.thawB i t x v) :: Frame.thawB i t x r
theorem Frame.get_thawB (i : Nat) (t : Ty) (x : t.T) (F : Frame) (s : Nat) : Frame.get (Frame.thawB i t x F) s = Go.Proofs.YtpepbnieocdpbaaDoor.thawB i t x (Frame.get F s) := by
  induction F with
  | nil => rfl
  | cons p F ih =>
    obtain ⟨d, v⟩ := p
    simp only [Frame.thawB, Frame.get_cons, ih]
    split <;> rfl
theorem kill_cases (i : Nat) (v : V) : v.kill i = v ∨ v.kill i = ⟨.junk, ()⟩ := by
  unfold V.kill
  cases uses i v.t v.x <;> simp
section
variable {P : Program} {K : Kn} {w0 : World} {X : Ownr} {n : Nat} {σ : AS} {β : Nat → Value} {a : Act} {w : World} {Q : Exit → AS → Prop}
theorem Sim.freezeB (h : Sim w0 X n σ β a w) (hX : X.Ok w0) {i : Nat} {t : Ty} {x : t.T} (hi : Owns.get σ.E i = some (.box t x)) :
    Sim w0 X n { F := Frame.thawB i t x σ.F, E := (i, none) :: σ.E, nx := σ.nx } β a w := by
  have h' := h.forget i
  obtain ⟨g, cs, ty, hβ, _, hg, hr⟩ := h.own i _ hi
  have hsub : ∀ g, OSet X ((i, none) :: σ.E) β g → OSet X σ.E β g := fun g hg => by
    rcases hg with hg | ⟨j, oj, h1, h2⟩
    · exact .inl hg
    · rw [Owns.get_cons] at h1
      by_cases hs : i = j
      · rw [if_pos hs] at h1; cases h1
      · rw [if_neg hs] at h1; exact .inr ⟨j, oj, h1, h2⟩
  have hng : ¬ OSet X ((i, none) :: σ.E) β g := fun hg' => by
    rcases hg' with hg' | ⟨j, oj, h1, h2⟩
    · have h3 := hX.1 g hg'
      rcases h.new i _ g hi (by rw [hβ]; rfl) with h4 | h4
      · omega
      · exact h3.2 h4
    · rw [Owns.get_cons] at h1
      by_cases hs : i = j
      · rw [if_pos hs] at h1; cases h1
      · rw [if_neg hs] at h1
        exact h.inj i j _ _ hi h1 hs g (by rw [hβ]; rfl) h2
  have hk : Keeps w w (OSet X σ.E β) (OSet X ((i, none) :: σ.E) β) := ⟨Nat.le_refl _, fun _ _ _ => rfl, fun g _ h => hsub g h⟩
  have hv : RepV w (OSet X ((i, none) :: σ.E) β) β (.vptr t) x (.pointer (some ⟨g, 0, none⟩)) :=
    ⟨g, 0, cs, rfl, (Array.getElem?_eq_some_iff.1 hg).1, hng, RepC.keep hk _ _ _ hr, fun j u hu => by
      unfold World.cell?
      rw [hg]
      simpa using hu⟩
  refine ⟨h'.sz, h'.df, h'.bel, fun s => ?_, h'.own, h'.new, h'.inj, h'.lt, h'.fix, fun s => ?_⟩
  · have h1 := h'.fr s
    show RepV _ _ _ (Frame.get (Frame.thawB i t x σ.F) s).t _ _
    rw [Frame.get_thawB]
    revert h1
    show RepV _ _ _ (Frame.get σ.F s).t _ _ → _
    generalize Frame.get σ.F s = v
    intro h1
    by_cases hv' : thawB i t x v = v.kill i
    · rw [hv']
      rcases kill_cases i v with e | e
      · rw [e]; exact h1
      · rw [e]; trivial
    · obtain ⟨vt, vx⟩ := v
      cases vt <;> first | exact absurd rfl hv' | skip
      rename_i τ
      obtain ⟨j, r, p⟩ := vx
      simp only [thawB]
      cases e : Nat.beq i j with
      | false => exact h1
      | true =>
        have e' : i = j := Nat.eq_of_beq_eq_true e
        subst e'
        simp only [cond_true]
        obtain ⟨g', hb, hu⟩ := h1
        rw [hβ] at hb
        cases hb
        cases p with
        | here =>
          simp only [thawP]
          cases tyEq? τ t with
          | none => trivial
          | some q => rw [hu]; exact hv
        | _ => trivial
  · have h1 := h'.hb s
    show (Frame.get (Frame.thawB i t x σ.F) s).bound ≤ _
    rw [Frame.get_thawB]
    revert h1
    show (Frame.get σ.F s).bound ≤ _ → _
    generalize Frame.get σ.F s = v
    intro h1
    by_cases hv' : thawB i t x v = v.kill i
    · rw [hv']
      rcases kill_cases i v with e | e
      · rw [e]; exact h1
      · rw [e]; exact Nat.zero_le _
    · obtain ⟨vt, vx⟩ := v
      cases vt <;> first | exact absurd rfl hv' | skip
      rename_i τ
      obtain ⟨j, r, p⟩ := vx
      simp only [thawB]
      cases e : Nat.beq i j with
      | false => exact h1
      | true =>
        simp only [cond_true]
        cases p with
        | here =>
          simp only [thawP]
          cases tyEq? τ t with
          | none => exact Nat.zero_le _
          | some q => exact Nat.zero_le _
        | _ => exact Nat.zero_le _
/-- the variable that a slot points to is given away -/
def frzB (σ : AS) (s : Nat) : AS :=
  match Frame.get σ.F s with
  | ⟨.optr _, ⟨i, _, _⟩⟩ => match Owns.get σ.E i with
    | some (.box t x) => { F := Frame.thawB i t x σ.F, E := (i, none) :: σ.E, nx := σ.nx }
    | _ => σ
  | _ => σ
theorem Sim.frzB (h : Sim w0 X n σ β a w) (hX : X.Ok w0) (s : Nat) : Sim w0 X n (frzB σ s) β a w := by
  unfold Go.Proofs.YtpepbnieocdpbaaDoor.frzB
  split
  · split
    · rename_i he
      exact h.freezeB hX he
    · exact h
  · exact h
theorem AWP.frzB (hX : X.Ok w0) (s : Nat) {c : Code} (h : AWP P w0 X n c (Go.Proofs.YtpepbnieocdpbaaDoor.frzB σ s) Q) : AWP P w0 X n c σ Q :=
  fun β a w hs => h β a w (hs.frzB hX s)
/-- the orders of a region of two cuts and a copy of the one into the other -/
def copyB (ops : Array Oper) : Bool :=
  Region.noSelect ops && Region.free .any ops #[false, false, false] 0 && (Region.ready .any ops #[false, false, false]).contains 0 &&
    Region.free .any ops #[true, false, false] 1 && (Region.ready .any ops #[true, false, false]).contains 1 && (Region.ready .any ops #[true, true, false] == [2]) && (Region.ready .any ops #[true, true, true] == [])
theorem sliceArr_run {xt te : TypeId} {k s : Nat} (hu : P.underlying xt = some (.array k te)) (hs : ∀ w, (Go.sizeOf te).run P w = .ok s w) (g off : Nat) (w : World) :
    (Instr.sliceAt xt (.pointer (some ⟨g, off, none⟩)) none none none).run P w = .ok (.slice (some ⟨g, off, none⟩) k k) w := by
  unfold Instr.sliceAt
  simp only [Sem.run_bind, run_underlying hu, Result.andThen_ok, hs, Sem.run_pure, Instr.sureAddr, Instr.sliceBounds]
  split
  · simp
  · simp [Addr.add]
theorem AWP.copyArr (hm : P.follows .mixedOrders = true) (hX : X.Ok w0) (hK : KnOk P X.G K) {id : Nat} {o0 o1 o2 : Oper} {sd ss d0 d1 d2 : Nat} {xd xs sl : TypeId} {nd ns i : Nat} {x y : List UInt8}
    (h0 : o0.op = .slice xd (.tmp sd) none none none) (h0d : o0.dst = some d0) (h0g : o0.guard = none)
    (h1 : o1.op = .slice xs (.tmp ss) none none none) (h1d : o1.dst = some d1) (h1g : o1.guard = none)
    (h2 : o2.op = .call ⟨.builtin .copy, #[.tmp d0, .tmp d1], #[sl, sl]⟩) (h2d : o2.dst = some d2) (h2g : o2.guard = none)
    (hxd : tis K.T xd (.arr nd (.int .u8)) = true) (hxs : tis K.T xs (.arr ns (.int .u8)) = true) (hsl : tis K.T sl (.slice (.int .u8)) = true)
    (hsd : Frame.get σ.F sd = ⟨.optr (.arr nd (.int .u8)), ⟨i, .arr nd (.int .u8), .here⟩⟩) (hi : Owns.get σ.E i = some (.box (.arr nd (.int .u8)) x)) (hss : Frame.get σ.F ss = ⟨.vptr (.arr ns (.int .u8)), y⟩)
    (hle : ns ≤ nd) (hn0 : d0 < n) (hn1 : d1 < n) (hn2 : d2 < n) (hne : d0 ≠ d1) (hne2 : d0 ≠ ss) (hB : copyB #[o0, o1, o2] = true)
    (hq : Q .normal ⟨(d2, ⟨.junk, ()⟩) :: (d1, ⟨.junk, ()⟩) :: (d0, ⟨.junk, ()⟩) :: σ.F, (i, some (.box (.arr nd (.int .u8)) ((y ++ List.drop ns x : List UInt8)))) :: σ.E, σ.nx⟩) : AWP P w0 X n (.region id #[o0, o1, o2] true) σ Q := by
  intro β a w h
  have hfd := h.fr sd
  rw [hsd] at hfd
  have hfs := h.fr ss
  rw [hss] at hfs
  obtain ⟨g, cs, ty, hβ, _, hg, hr⟩ := h.own i _ hi
  obtain ⟨g', hb, hud⟩ := hfd
  have hb : blockOf (β i) = some g' := hb
  rw [hβ] at hb
  cases hb
  have hud : a.tmps.getD sd undef = .pointer (some ⟨g, 0, none⟩) := hud
  obtain ⟨g2, off2, ds, hus, hg2, hn2', hr2, hc2⟩ := hfs
  have hus : a.tmps.getD ss undef = .pointer (some ⟨g2, off2, none⟩) := hus
  have hr2 : List.length y = ns ∧ RepL (RepC w (OSet X σ.E β) (.int .u8)) y ds := hr2
  have hr : List.length x = nd ∧ RepL (RepC w (OSet X σ.E β) (.int .u8)) x cs := hr
  have hds := repL_bytes hr2.2
  have hcs := repL_bytes hr.2
  obtain ⟨td, hud', _, htd⟩ := hK.t.is hxd
  obtain ⟨ts, hus', _, hts⟩ := hK.t.is hxs
  obtain ⟨te, hut, _, hte⟩ := hK.t.is hsl
  simp only [copyB, Bool.and_eq_true, beq_iff_eq] at hB
  obtain ⟨⟨⟨⟨⟨⟨q1, q2⟩, q3⟩, q4⟩, q5⟩, q6⟩, q7⟩ := hB
  have hsz := h.sz
  let v0 : Value := .slice (some ⟨g, 0, none⟩) nd nd
  let v1 : Value := .slice (some ⟨g2, off2, none⟩) ns ns
  have hw : ∀ (o : Oper) (b : Act), o.guard = none → Region.wanted o (yielded #[o0, o1, o2] b.tmps) = true := fun o b hg => by simp [Region.wanted, hg]
  have hy0 : Go.Yields P #[o0, o1, o2] o0 v0 a := .inl ⟨hw _ _ h0g, fun w => by
    unfold execOp
    simp only [h0]
    have := sliceArr_run (P := P) hud' (fun w => htd.sizeOf) g 0 w
    rw [← hud] at this
    exact run_v this⟩
  have hy1 : Go.Yields P #[o0, o1, o2] o1 v1 (a.put o0.dst v0) := .inl ⟨hw _ _ h1g, fun w => by
    unfold execOp
    simp only [h1]
    have := sliceArr_run (P := P) hus' (fun w => hts.sizeOf) g2 off2 w
    have e : (a.put o0.dst v0).eval (.tmp ss) = .pointer (some ⟨g2, off2, none⟩) := by
      show (a.put o0.dst v0).tmps.getD ss undef = _
      rw [h0d, Act.put_get (by rw [hsz]; exact hn0), if_neg hne2, hus]
    rw [← e] at this
    exact run_v this⟩
  let Φ : Exit → Act → World → Prop := fun e a' w' => e = .normal ∧ ∃ β', Sim w0 X n ⟨(d2, ⟨.junk, ()⟩) :: (d1, ⟨.junk, ()⟩) :: (d0, ⟨.junk, ()⟩) :: σ.F, (i, some (.box (.arr nd (.int .u8)) ((y ++ List.drop ns x : List UInt8)))) :: σ.E, σ.nx⟩ β' a' w'
  have hdf : noDefer (#[o0, o1, o2] : Array Oper).toList = true := by simp [noDefer, h0, h1, h2]
  suffices hany : wpAny P .any #[o0, o1, o2] Φ 3 #[false, false, false] a { w with drawn := w.drawn + 1 } from
    Go.wpIn_mono (wpIn_region_any hm (wpAnyIn_of_wpAny (R := Φ) not_lets hdf _ hany)) fun e a w ⟨he, β', h'⟩ => by subst he; exact ⟨_, β', h', hq⟩
  refine wpAny_take (i := 0) (oi := o0) (v := v0) rfl q1 q2 q3 (fun c a w h => by cases h.1) hy0 ?_
  refine wpAny_take (i := 1) (oi := o1) (v := v1) rfl q1 q4 q5 (fun c a w h => by cases h.1) hy1 ?_
  refine wpAny_all (rs := [2]) q6 (by simp) fun j hj => ?_
  rw [List.mem_singleton] at hj
  subst hj
  obtain ⟨b, hb⟩ : ∃ b, b = (a.put o0.dst v0).put o1.dst v1 := ⟨_, rfl⟩
  rw [← hb]
  have eb0 : b.eval (.tmp d0) = v0 := by
    show b.tmps.getD d0 undef = _
    rw [hb, h0d, h1d, Act.put_get (by rw [Act.put_size, hsz]; exact hn1), if_neg (Ne.symm hne), Act.put_get (by rw [hsz]; exact hn0), if_pos rfl]
  have eb1 : b.eval (.tmp d1) = v1 := by
    show b.tmps.getD d1 undef = _
    rw [hb, h0d, h1d, Act.put_get (by rw [Act.put_size, hsz]; exact hn1), if_pos rfl]
  have hlen : ds.length = Nat.min ns nd := by rw [hds, List.length_map, hr2.1]; exact (Nat.min_eq_left hle).symm
  have hclen : cs.length = nd := by rw [hcs, List.length_map, hr.1]
  have hrun := run_copy_row (P := P) w.drew sl sl o2.type te g 0 nd nd ⟨g2, off2, none⟩ ns ns cs.toArray ty ds hut (by rw [hte.cellSize]; rfl) hg hlen
    (fun j v hv => by rw [Addr.add_mid]; exact hc2 j v hv) (by simp only [List.size_toArray]; rw [hlen, hclen, Nat.zero_add]; exact Nat.min_le_right _ _) (fun v hv => by rw [hds] at hv; obtain ⟨u, _, rfl⟩ := List.mem_map.1 hv; simp [Value.oneCell'])
  have e2 : (#[o0, o1, o2] : Array Oper)[2]? = some o2 := rfl
  let W : World := w.drew
  have hres : (execOp b.eval o2).run P W = .ok (.value (goInt ds.length)) (W.setRow g (cs.toArray.toList.take 0 ++ (ds ++ cs.toArray.toList.drop (0 + ds.length))).toArray) := by
    simp only [execOp, h2, resolve, builtin, eb0, eb1, v0, v1]
    simp [invoke, builtin, eb0, eb1, v0, v1, hrun, Result.andThen, W]
  generalize hcells : (cs.toArray.toList.take 0 ++ (ds ++ cs.toArray.toList.drop (0 + ds.length))) = cells at hres
  have hcells' : cells = ds ++ cs.drop (ns * 1) := by rw [← hcells, hlen, show Nat.min ns nd = ns from Nat.min_eq_left hle]; simp
  have hW : Sim w0 X n σ β a W := ⟨h.sz, h.df, h.bel.then ((Below.refl _ _).drew), fun s => RepV.keep (.of_below ((Below.refl _ _).drew) fun _ _ h => h) _ _ _ (h.fr s), fun i o ho => (h.own i o ho).keep (.of_below ((Below.refl _ _).drew) fun _ _ h => h) fun _ _ => rfl, h.new, h.inj, h.lt, h.fix, h.hb⟩
  have s0 := hW.put (Below.refl _ _) (v := ⟨.junk, ()⟩) (u := v0) trivial (Nat.zero_le _) hn0
  have s1 := s0.put (Below.refl _ _) (v := ⟨.junk, ()⟩) (u := v1) trivial (Nat.zero_le _) hn1
  have hgW : W.heap[g]? = some (.cells cs.toArray ty (0, 0)) := hg
  have s2 := s1.write (i := i) (w' := W.setRow g cells.toArray) (o' := .box (.arr nd (.int .u8)) ((y ++ List.drop ns x : List UInt8))) hi
    ⟨rfl, rfl, rfl, by simp [World.setRow], fun k _ hk => setRow_other W g k _ (fun e => hk (by rw [hβ, e]; rfl))⟩
    (fun _ => ⟨g, cells, ty, hβ, Nat.zero_le _, setRow_heap W g _ _ ty _ hgW, by
      refine ⟨?_, ?_⟩
      · show List.length (y ++ List.drop ns x) = nd
        rw [List.length_append, List.length_drop, hr2.1, hr.1]
        omega
      · rw [hcells']
        exact (RepL.append (hr2.2.mono fun _ _ _ h => h) ((hr.2.drop (fun x c => RepC.len _ x c) ns).mono fun _ _ _ h => h))⟩) rfl
  have s3 := s2.put (Below.refl _ _) (v := ⟨.junk, ()⟩) (u := goInt ds.length) trivial (Nat.zero_le _) hn2
  have hstep : o2.wp P b W (wpAny P .any #[o0, o1, o2] Φ 0 (((#[false, false, false].setIfInBounds 0 true).setIfInBounds 1 true).setIfInBounds 2 true)) Φ := by
    unfold Oper.wp
    rw [hres]
    show wpAny P .any #[o0, o1, o2] Φ 0 _ (b.put o2.dst (goInt ds.length)) (W.setRow g cells.toArray)
    refine ⟨q7, rfl, β, ?_⟩
    rw [hb, h0d, h1d, h2d]
    exact s3
  simp only [Go.wpOp, e2, hw o2 b h2g, if_true]
  exact .inl hstep
end
end Go.Proofs.YtpepbnieocdpbaaDoor
