/-
  A list of operations on a plain state: the program does so. No program is read here.
-/
import Derived.Test.YtpepbnieocdpbaaDoorAbsStepOk
namespace Go.Proofs.YtpepbnieocdpbaaDoor
open Go Go.RowKit
set_option linter.unusedSimpArgs false
set_option linter.unusedVariables false

section
variable {P : Program} {K : Kn} {w0 : World} {X : Ownr} {n : Nat} {σ : AS} {β : Nat → Value} {a : Act} {w : World} {N : Act → World → Prop} {R : Exit → Act → World → Prop}

theorem wp_run {o : Oper} {u : Value} {w' : World} (h : (execOp a.eval o).run P w = .ok (.value u) w') (hN : N (a.put o.dst u) w') : o.wp P a w N R := by
  unfold Oper.wp
  rw [h]
  exact hN
theorem run_v {s : Sem Value} {u : Value} {w' : World} (h : s.run P w = .ok u w') : (do pure (.value (← s)) : Sem Next).run P w = .ok (.value u) w' := by simp [h]
theorem OwnRep.base {w : World} {O : Nat → Prop} {B B' : Nat} {bv : Value} {o : OObj} (h : OwnRep w O B bv o) (hB : B' ≤ B) : OwnRep w O B' bv o := by
  cases o with
  | box t x =>
    obtain ⟨g, cs, ty, e, h1, h2⟩ := h
    exact ⟨g, cs, ty, e, Nat.le_trans hB h1, h2⟩
  | buf te t xs =>
    obtain ⟨cs, h1, h2, h3⟩ := h
    refine ⟨cs, h1, ⟨h2.1, ?_⟩, h3⟩
    rcases h2.2 with h4 | ⟨g, cap, cur, e, h5, h6⟩
    · exact .inl h4
    · exact .inr ⟨g, cap, cur, e, Nat.le_trans hB h5, h6⟩
/-- a new variable -/
theorem Sim.var (h : Sim w0 X n σ β a w) (hX : X.Ok w0) {τ : Ty} {x : τ.T} {cs : List Value} (hr : RepC w (OSet X σ.E β) τ x cs) {ty : TypeId} {d : Nat} (hd : d < n) :
    ∃ β', Sim w0 X n ⟨(d, ⟨.optr τ, ⟨σ.nx, τ, .here⟩⟩) :: σ.F, (σ.nx, some (.box τ x)) :: σ.E, σ.nx + 1⟩ β' (a.put (some d) (.pointer (some ⟨w.heap.size, 0, none⟩))) (w.alloc (.cells cs.toArray ty)) := by
  refine h.make hX (below_alloc w _) (bv := .pointer (some ⟨w.heap.size, 0, none⟩)) (o := .box τ x) (v := ⟨.optr τ, ⟨σ.nx, τ, .here⟩⟩) ?_ ?_ ?_ ?_ hd
  · intro O hO
    refine ⟨w.heap.size, cs, ty, rfl, Nat.zero_le _, heap_alloc_new w _, RepC.keep (.of_below (below_alloc w _) fun g hg hg' => ?_) _ _ _ hr⟩
    rcases hO g hg' with h1 | h1
    · exact h1
    · have : w.heap.size = g := by simpa [blockOf] using h1
      omega
  · intro g hg
    cases hg
    exact Nat.le_refl _
  · intro O β' hβ
    exact ⟨w.heap.size, by show blockOf (β' σ.nx) = _; rw [hβ]; rfl, rfl⟩
  · exact Nat.le_refl _
/-- a new slice of the call's own -/
theorem Sim.buf (h : Sim w0 X n σ β a w) (hX : X.Ok w0) {w' : World} (hk : Below w.heap.size w w') {τ : Ty} {te : TypeId} {xs : List τ.T} {u : Value}
    (hr : OwnRep w' (fun g => OSet X σ.E β g ∨ blockOf u = some g) w.heap.size u (.buf te τ xs)) {d : Nat} (hd : d < n) :
    ∃ β', Sim w0 X n ⟨(d, ⟨.obuf τ, σ.nx⟩) :: σ.F, (σ.nx, some (.buf te τ xs)) :: σ.E, σ.nx + 1⟩ β' (a.put (some d) u) w' := by
  refine h.make hX hk (bv := u) (o := .buf te τ xs) (v := ⟨.obuf τ, σ.nx⟩) ?_ ?_ ?_ ?_ hd
  · intro O hO
    have h1 := hr.keep (O' := O) ⟨Nat.le_refl _, fun _ _ _ => rfl, fun g _ hg => hO g hg⟩ fun _ _ => rfl
    exact h1.base (Nat.zero_le _)
  · exact fun g hg => (hr.block_lt hg).1
  · intro O β' hβ
    exact hβ.symm
  · exact Nat.le_refl _

theorem ownRep_new {w : World} {O : Nat → Prop} (hO : ∀ g, O g → g < w.heap.size) {τ : Ty} (hz : 0 < τ.size) {xs : List τ.T} {ds : List Value} {te : TypeId} (h : RepL (RepC w O τ) xs ds) {len cap : Nat} (hl : xs.length = len) (hc : len ≤ cap) (hm : cap ≤ maxLen) {cur : Array Value} (hcur : cur.size = cap * τ.size) (ht : cur.toList.take ds.length = ds) :
    OwnRep (w.alloc (.cells cur te)) (fun g => O g ∨ blockOf (.slice (some ⟨w.heap.size, 0, none⟩) len cap) = some g) w.heap.size (.slice (some ⟨w.heap.size, 0, none⟩) len cap) (.buf te τ xs) := by
  have hd := h.len (fun x c => RepC.len τ x c)
  refine ⟨ds, h.mono fun x _ c => RepC.keep (.of_below (below_alloc w _) fun g hg hg' => ?_) _ _ _, ⟨hd, .inr ⟨w.heap.size, cap, cur, by rw [hl], Nat.le_refl _, heap_alloc_new w _, by rw [hl]; exact hc, hm, hcur, by rw [← hd]; exact ht⟩⟩, hz⟩
  rcases hg' with h1 | h1
  · exact h1
  · have : w.heap.size = g := by simpa [blockOf] using h1
    omega
theorem coe_slice {τ : Ty} {v : V} {ys : List τ.T} (h : coe (.slice τ) v = some ys) : v = ⟨.slice τ, ys⟩ ∨ (v = ⟨.lit, .slice none 0 0⟩ ∧ ys = []) := by
  rcases coe_spec h with h1 | ⟨h1, τ', h2⟩
  · exact .inl h1
  · cases h2; exact .inr ⟨h1, rfl⟩
theorem preS_some {A : List Prop} {o : Option (List Prop × AS)} {r : List Prop × AS} (h : preS A o = some r) : ∃ q, o = some q ∧ (A ++ q.1, q.2) = r := by
  induction A generalizing r with
  | nil => exact ⟨r, h, rfl⟩
  | cons a A ih =>
    simp only [preS] at h
    split at h <;> first | (cases h; done) | skip
    rename_i p v hp
    cases h
    obtain ⟨q, h1, h2⟩ := ih hp
    cases h2
    exact ⟨q, h1, rfl⟩
theorem doStep_wp (hK : KnOk P X.G K) (hX : X.Ok w0) (h : Sim w0 X n σ β a w) {o : Oper} {r : List Prop × AS} (hs : doStep K n o.dst o.op σ = some r) (hp : allP r.1)
    (hN : ∀ β' a' w', Sim w0 X n r.2 β' a' w' → N a' w') : o.wp P a w N R := by
  have hO := h.hO hX
  generalize hdst : o.dst = dst at hs
  generalize hop : o.op = op at hs
  obtain ⟨F, E, nx⟩ := σ
  simp only [doStep] at hs
  split at hs
  · -- a store
    split at hs
    · rename_i t p x
      split at hs
      · rename_i τ i rt q hq
        split at hs
        · rename_i ob hob
          split at hs
          · rename_i hty
            split at hs
            · rename_i y hy
              split at hs <;> first | (cases hs; done) | skip
              rename_i vc o' h1
              cases hs
              simp only [allP_append] at hp
              have hpp := strip_rep (h.ops p) hp.1.1
              rw [hq] at hpp
              obtain ⟨g, h2, h3⟩ := hpp
              have hl := hK.t.is hty
              have hx := coe_rep hl.data hy (strip_rep (h.ops x) hp.1.2)
              obtain ⟨w', h4, h5, h6, h7⟩ := storeAt_own (h.own _ _ hob) h2 (.inr ⟨_, _, hob, h2⟩) hl h1 hp.2 hx
              unfold Oper.wp
              have e : (execOp a.eval o).run P w = .ok .skip w' := by
                unfold execOp
                simp only [hop]
                rw [h3]
                simp [h4]
              rw [e]
              show N (a.put o.dst undef) w'
              rw [hdst]
              exact hN β a w' (h.write hob (by rw [h2]; exact h5) h6 h7)
            · cases hs
          · cases hs
        · cases hs
      · cases hs
    · cases hs
  · rename_i d
    split at hs
    · rename_i hdn
      have hd : d < n := by simpa using hdn
      split at hs
      · -- alloc
        rename_i t
        split at hs
        · rename_i τ ht
          cases hs
          have hl := hK.t.lay _ _ ht
          obtain ⟨i, z, hi, _, hz, hzc, _⟩ := hl.info
          obtain ⟨β', hs'⟩ := h.var hX (repC_zero w (OSet X E β) τ hl.data) (ty := t) hd
          refine wp_run (u := .pointer (some ⟨w.heap.size, 0, none⟩)) (w' := w.alloc (.cells (zcells τ).toArray t)) ?_ (by rw [hdst]; exact hN β' _ _ hs')
          unfold execOp
          simp [hop, Instr.alloc, zeroValue, typeInfo, hi, hz, newVar, newRow, hzc]
        · cases hs
      · -- box
        rename_i t x
        split at hs
        · rename_i τ ht
          split at hs <;> first | (cases hs; done) | skip
          rename_i y h1
          cases hs
          have hl := hK.t.lay _ _ ht
          have hx := coe_rep hl.data h1 (strip_rep (h.ops x) hp)
          obtain ⟨β', hs'⟩ := h.var hX hx.cells (ty := t) hd
          refine wp_run (u := .pointer (some ⟨w.heap.size, 0, none⟩)) (w' := w.alloc (.cells (a.eval x).cells t)) ?_ (by rw [hdst]; exact hN β' _ _ (by simpa using hs'))
          unfold execOp
          simp [hop, Instr.box, newVar, newRow]
        · cases hs
      · -- a slice's literal
        rename_i t len parts
        split at hs
        · rename_i te p e xs hte hq
          cases hs
          have hps : RepPs w (OSet X E β) β (parts.toList.map fun p => (p.1, evO F p.2)) (parts.map fun p => (p.1, a.eval p.2)).toList := by
            rw [Array.toList_map]
            exact repPs_map fun p hpm => h.ops p.2
          obtain ⟨ds, te', hu, hl, hz, h1, h2, h3⟩ := buildSliceV_run hK.t hq hp hps
          have : te = te' := by have := hK.u _ _ hte; rw [hu] at this; cases this; rfl
          subst this
          have hdl := h1.len (fun x c => RepC.len _ x c)
          have hlen : len ≤ maxLen := by
            unfold buildSliceV at hq
            split at hq
            · split at hq
              · rename_i e _ hb
                simp only [Bool.and_eq_true, Nat.ble_eq] at hb
                have hpos : 0 < e.size := by simpa using hb.2
                have := Nat.le_mul_of_pos_right len hpos
                simp only [maxLen]
                omega
              · cases hq
            · cases hq
          have hown := ownRep_new (te := te) hO hz h1 h2 (Nat.le_refl _) hlen (cur := ds.toArray) (by rw [List.size_toArray, hdl, h2]) (by simp)
          obtain ⟨β', hs'⟩ := h.buf hX (below_alloc w _) hown hd
          refine wp_run (u := .slice (some ⟨w.heap.size, 0, none⟩) len len) (w' := w.alloc (.cells ds.toArray te)) ?_ (by rw [hdst]; exact hN β' _ _ hs')
          unfold execOp
          simp only [hop]
          exact run_v h3
        · cases hs
      · -- make
        rename_i t l c
        split at hs
        · rename_i te τ x0 y0 hte hty hl hc
          obtain ⟨x, rfl⟩ : ∃ x : Int, x = x0 := ⟨x0, rfl⟩
          obtain ⟨y, rfl⟩ : ∃ y : Int, y = y0 := ⟨y0, rfl⟩
          split at hs
          · rename_i hb
            cases hs
            simp only [allP_append] at hp
            obtain ⟨⟨hp1, hp2⟩, h0, hxy, hy⟩ := hp
            have hy : y ≤ 1000000000 := hy
            have h0 : 0 ≤ x := h0
            have hxy : x ≤ y := hxy
            simp only [Bool.and_eq_true, Nat.ble_eq] at hb
            have hz : 0 < τ.size := by simpa using hb.2
            have hL := strip_rep (h.ops l) hp1
            have hC := strip_rep (h.ops c) hp2
            rw [hl] at hL
            rw [hc] at hC
            have hL := RepV.int hL
            have hC := RepV.int hC
            obtain ⟨te', hu, _, hlay⟩ := hK.t.lay _ _ hty
            have : te = te' := by have := hK.u _ _ hte; rw [hu] at this; cases this; rfl
            subst this
            obtain ⟨i, z, hi, hsz, hzv, hzc, hby⟩ := hlay.info
            have hzs : z.cells.size = τ.size := by rw [hzc]; simp [zcells_length τ hlay.data]
            have hbytes : (i.bytes : Int) * y ≤ 281474976710656 := by
              have hb1 : i.bytes ≤ 100000 := by omega
              have hb2 : i.bytes * (y : Int).toNat ≤ 100000 * 1000000000 := Nat.mul_le_mul hb1 (by omega)
              have hb3 : ((i.bytes * (y : Int).toNat : Nat) : Int) = (i.bytes : Int) * y := by
                rw [Int.natCast_mul, Int.toNat_of_nonneg (by omega)]
              omega
            have hrun := run_make (P := P) w t te i z hu hi hzv .i64 .i64 x y h0 hxy hbytes (by omega)
            have hcells : madeCells z.cells ((y : Int).toNat * i.size) = (List.replicate (y : Int).toNat (zcells τ)).flatten.toArray := by
              have := zeros_range z.cells (by omega) (y : Int).toNat
              unfold madeCells
              rw [hsz, ← hzs, this, hzc]
            rw [hcells] at hrun
            have hz1 := repL_zeros (w := w) (O := OSet X E β) hlay.data (x : Int).toNat
            have hlz := hz1.len (fun x c => RepC.len _ x c)
            have hown := ownRep_new (te := te) hO hz hz1 (len := (x : Int).toNat) (cap := (y : Int).toNat) (by simp) (by omega) (by simp only [maxLen]; omega) (cur := (List.replicate (y : Int).toNat (zcells τ)).flatten.toArray)
              (by simp [zcells_length τ hlay.data]) (by
                have e1 : (y : Int).toNat = (x : Int).toNat + ((y : Int).toNat - (x : Int).toNat) := by omega
                rw [e1, ← List.replicate_append_replicate, List.flatten_append]
                simp only [List.toList_toArray]
                rw [List.take_left])
            obtain ⟨β', hs'⟩ := h.buf hX (below_alloc w _) hown hd
            refine wp_run (u := .slice (some ⟨w.heap.size, 0, none⟩) (x : Int).toNat (y : Int).toNat) ?_ (by rw [hdst]; exact hN β' _ _ hs')
            unfold execOp
            simp only [hop, hL, hC]
            exact run_v hrun
          · cases hs
        · cases hs
      · -- append
        rename_i args ts
        split at hs
        · rename_i s x t u ha ht
          split at hs
          · rename_i htu
            have : t = u := Nat.eq_of_beq_eq_true htu
            subst this
            have ea : args = #[s, x] := by rw [← Array.toList_inj, ha]
            have et : ts = #[t, t] := by rw [← Array.toList_inj, ht]
            subst ea; subst et
            obtain ⟨q, h1, rfl⟩ := preS_some hs
            simp only [allP_append] at hp
            have hS := strip_rep (h.ops s) hp.1.1
            have hXX := strip_rep (h.ops x) hp.1.2
            have erun : ∀ v' w', (Builtin.append_ #[t, t] o.type #[a.eval s, a.eval x]).run P w = .ok v' w' → (execOp a.eval o).run P w = .ok (.value v') w' := by
              intro v' w' hr
              unfold execOp
              simp [hop, resolve, invoke, builtin, hr]
            have src : ∀ {τ : Ty} {ys : List τ.T} {y : V}, coe (.slice τ) (dat E y) = some ys → RepV w (OSet X E β) β y.t y.x (a.eval x) → RepS w (fun _ => False) (RepC w (OSet X E β) τ) ys (a.eval x) := by
              intro τ ys y hy hr
              rcases coe_slice hy with hd0 | ⟨hd0, rfl⟩
              · exact src_rep h.own hd0 hr
              · have : y = ⟨.lit, .slice none 0 0⟩ := by
                  obtain ⟨yt, yx⟩ := y
                  cases yt <;> simp only [dat] at hd0 <;> first | exact hd0 | (cases hd0; done) | (split at hd0 <;> cases hd0)
                rw [this] at hr
                have e : a.eval x = .slice none 0 0 := hr
                exact .inl ⟨rfl, none, 0, e, by simp⟩
            unfold appV at h1
            split at h1
            · rename_i te hte
              split at h1
              · rename_i τ0 i hsv
                split at h1
                · rename_i te' τ xs hob
                  split at h1
                  · rename_i hb
                    split at h1 <;> first | (cases h1; done) | skip
                    rename_i ys h2
                    cases h1
                    simp only [Bool.and_eq_true, Nat.ble_eq] at hb
                    obtain ⟨⟨hb1, hb2⟩, hb3⟩ := hb
                    have : te = te' := Nat.eq_of_beq_eq_true hb2
                    subst this
                    rw [hsv] at hS
                    have eS : a.eval s = β i := hS
                    obtain ⟨te2, hu, _, hlay⟩ := hK.t.is hb1
                    have : te = te2 := by have := hK.u _ _ hte; rw [hu] at this; cases this; rfl
                    subst this
                    obtain ⟨v', w', k1, k2, k3, k4⟩ := append_run (P := P) hu hlay hb3 o.type (Nat.zero_le _) (h.own i _ hob) (fun g hg => .inr ⟨i, _, hob, hg⟩) (src h2 hXX) hp.2
                    obtain ⟨β', hs'⟩ := h.redo hob rfl k2 (bv := v') k3 (t := τ) (fun O hO => k4 O hO) hd
                    refine wp_run (erun v' w' (by rw [eS]; exact k1)) (by rw [hdst]; exact hN β' _ _ hs')
                  · cases h1
                · cases h1
              · split at h1
                · rename_i hnil
                  split at h1
                  · rename_i τ hty
                    split at h1
                    · rename_i hb
                      split at h1 <;> first | (cases h1; done) | skip
                      rename_i ys h2
                      cases h1
                      simp only [Bool.and_eq_true, Nat.ble_eq] at hb
                      have hz : 0 < τ.size := by simpa using hb.2
                      have eS : a.eval s = .slice none 0 0 := by
                        revert hS hnil
                        generalize (strip (evO F s)).2 = sv
                        intro hS hnil
                        unfold isNil at hnil
                        split at hnil
                        · exact hS
                        · cases hnil
                      obtain ⟨te2, hu, _, hlay⟩ := hK.t.lay _ _ hty
                      have : te = te2 := by have := hK.u _ _ hte; rw [hu] at this; cases this; rfl
                      subst this
                      have hnilOwn : OwnRep w (OSet X E β) w.heap.size (.slice none 0 0) (.buf te τ []) := ⟨[], rfl, World.ownsRow_nil w _ te τ.size, hz⟩
                      obtain ⟨v', w', k1, k2, k3, k4⟩ := append_run (P := P) hu hlay hb.1 o.type (Nat.le_refl _) hnilOwn (fun g hg => by cases hg) (src h2 hXX) (by have hq : ys.length ≤ 1000000000 := hp.2; simpa using hq)
                      have hk : Below w.heap.size w w' := ⟨k2.os, k2.tape, k2.output, k2.size, fun g hg => k2.block g hg (by simp [blockOf])⟩
                      have hown := k4 (fun g => OSet X E β g ∨ blockOf v' = some g) fun g hg hg' => by
                        rcases hg' with h3 | h3
                        · exact h3
                        · rcases k3 g h3 with h4 | h4
                          · cases h4
                          · omega
                      obtain ⟨β', hs'⟩ := h.buf hX hk hown hd
                      refine wp_run (erun v' w' (by rw [eS]; exact k1)) (by rw [hdst]; exact hN β' _ _ hs')
                    · cases h1
                  · cases h1
                · cases h1
            · cases h1
          · cases hs
        · cases hs
      · -- a call
        rename_i f args ts
        split at hs <;> first | (cases hs; done) | skip
        rename_i p c xs h1
        have h2 := hs
        have hops : ∀ x ∈ o.op.operands, RepV w (OSet X E β) β (evO F x).t (evO F x).x (a.eval x) := fun x _ => h.ops x
        split at h2
        · rename_i hown0
          split at h2
          · cases h2
          · rename_i hh
            cases h2
            refine callV_wp hK.c (hX.2.2 w h.bel) hO h.own hop h1 hp hops fun v w' hb hr => ?_
            rw [hdst]
            simp only [hown0] at hr
            have hr' : RepV w' (fun g => c.fl = false ∧ OSet X E β g) β c.res (c.out xs) v := resRel_repV _ _ _ hr
            have hr2 : RepV w' (OSet X E β) β c.res (c.out xs) v := by
              cases hfl : c.fl with
              | true => exact repV_flat hfl hr'
              | false =>
                rw [hfl] at hr'
                exact RepV.keep ⟨Nat.le_refl _, fun _ _ _ => rfl, fun g _ h => ⟨rfl, h⟩⟩ _ _ _ hr'
            refine hN β _ _ (h.puts hb hr2 ?_ hd)
            show bnd _ _ ≤ _
            rw [bnd_hand _ _ (by simpa using hh)]
            exact Nat.zero_le _
        · rename_i te hown0
          split at h2
          · rename_i τ ys hres hout
            cases h2
            have hnf : c.fl = false := by unfold Ctr.fl; rw [hres]; rfl
            refine callV_wp hK.c (hX.2.2 w h.bel) hO h.own hop h1 hp hops fun v w' hb hr => ?_
            rw [hdst]
            simp only [hown0] at hr
            have hr' : OwnRep w' (fun g => (c.fl = false ∧ OSet X E β g) ∨ blockOf v = some g) w.heap.size v (.buf te τ ys) := by
              revert hr
              generalize c.out xs = x at hout ⊢
              revert x
              rw [hres]
              intro x hx hr
              cases hx
              exact hr
            have hr2 : OwnRep w' (fun g => OSet X E β g ∨ blockOf v = some g) w.heap.size v (.buf te τ ys) := hr'.keep ⟨Nat.le_refl _, fun _ _ _ => rfl, fun g _ h => h.imp (fun h => ⟨hnf, h⟩) id⟩ fun _ _ => rfl
            obtain ⟨β', hs'⟩ := h.buf hX hb hr2 hd
            exact hN β' _ _ hs'
          · cases h2
      · -- the others
        split at hs <;> first | (cases hs; done) | skip
        rename_i p t x h1
        have h2 := hs
        split at h2
        · rename_i hh
          cases h2
          have hops : ∀ x ∈ o.op.operands, RepV w (OSet X E β) β (evO F x).t (evO F x).x (a.eval x) := fun x _ => h.ops x
          obtain ⟨u, w', k1, k2, k3⟩ := pOp_yields (P := P) (o := o) hK.t hO h.own (by rw [hop]; exact h1) hp hops
          refine wp_run k1 ?_
          rw [hdst]
          exact hN β _ _ (h.puts k2 k3 (pOp_bound h1 hh h.hb h.lt) hd)
        · cases h2
    · cases hs
end
end Go.Proofs.YtpepbnieocdpbaaDoor
