/-
  Plain law: both comparisons of policies say that nobody gets more: 'allLe'. No program is read here.
-/
import Derived.Test.YtbbeldmcdjjnbaaGreatDoorPPrgC
import Derived.Test.YtbbeldmcdjjnbaaGreatDoorPRefC
namespace Go.Proofs.YtbbeldmcdjjnbaaGreatDoor
open Go Go.RowKit
set_option linter.unusedSimpArgs false
set_option linter.unusedVariables false
/-- what the first grant of an act that fits gives; 0: none -/
def val (l : List Gt) (a p : Int) (ts : List Int) : Int := match fst1 l a p ts with | some g => value g | none => 0
/-- nobody gets more from l than from m -/
def allLe (l m : List Gt) : Prop := ∀ (p : Int) (ts : List Int) (a : Int), (a = 1 ∨ a = 2 ∨ a = 3) → val l a p ts ≤ val m a p ts
theorem val_nil (a p : Int) (ts : List Int) : val [] a p ts = 0 := rfl
theorem val_some {g : Gt} {r : List Gt} {a p : Int} {ts : List Int} (ha : gA g = a) (hf : fits g p ts = true) : val (g :: r) a p ts = value g := by
  unfold val fst1
  rw [List.find?_cons_of_pos (by rw [decide_eq_true ha, hf]; rfl)]
theorem val_skip {g : Gt} {r : List Gt} {a p : Int} {ts : List Int} (h : ¬ (gA g = a ∧ fits g p ts = true)) : val (g :: r) a p ts = val r a p ts := by
  unfold val fst1
  rw [List.find?_cons_of_neg]
  intro h1
  rw [Bool.and_eq_true, decide_eq_true_iff] at h1
  exact h h1
/-- the outcomes of the grants that follow, where the teams 'e' came earlier -/
def outsR (a p : Int) : List Gt → List Int → List Oc
  | [], e => [(0, -1, e, ())]
  | g :: r, e => if gA g ≠ a ∨ (0 ≤ gP g ∧ gP g ≠ p) then outsR a p r e else if gT g < 0 then [(value g, -1, e, ())] else if gT g ∈ e then outsR a p r e else (value g, gT g, e, ()) :: outsR a p r (e ++ [gT g])
theorem outsF_eq (a p : Int) : ∀ (l : List Gt) (out : List Oc) (e : List Int), outsF a p l out e = out ++ outsR a p l e
  | [], out, e => rfl
  | g :: r, out, e => by
    unfold outsF outsR
    rw [outsF_eq a p r out e, outsF_eq a p r (out ++ [(value g, gT g, e, ())]) (e ++ [gT g])]
    split
    · rfl
    · split
      · rfl
      · split
        · rfl
        · rw [List.append_assoc]; rfl
theorem outs_eq (l : List Gt) (a p : Int) : outs l a p = outsR a p l [] := outsF_eq a p l [] []
/-- an outcome is met by a set of teams -/
def met (o : Oc) (ts : List Int) : Prop := (oN o = -1 ∨ oN o ∈ ts) ∧ ∀ t ∈ oW o, t ∉ ts
theorem okG_team {g : Gt} (h : OkG g) (ht : gT g < 0) : gT g = -1 := by
  rcases h.2.1 with h1 | h1
  · exact h1.2.2
  · omega
theorem okG_alone {g : Gt} (h : OkG g) (ht : ¬ gT g < 0) : ¬ 0 ≤ gP g := by
  rcases h.2.1 with h1 | h1
  · omega
  · omega
theorem fits_team {g : Gt} (hp : ¬ 0 ≤ gP g) (ht : ¬ gT g < 0) (p : Int) (ts : List Int) : fits g p ts = decide (gT g ∈ ts) := by
  unfold fits
  rw [if_neg hp, decide_eq_false (by omega : ¬ gT g = -1), Bool.false_or]
theorem fits_all {g : Gt} {p : Int} (hp : ¬ (0 ≤ gP g ∧ gP g ≠ p)) (ht : gT g = -1) (ts : List Int) : fits g p ts = true := by
  unfold fits
  split
  · rename_i h
    exact decide_eq_true (Classical.byContradiction fun h1 => hp ⟨h, h1⟩)
  · rw [decide_eq_true ht]; rfl
theorem fits_other {g : Gt} {p : Int} (hp : 0 ≤ gP g ∧ gP g ≠ p) (ts : List Int) : fits g p ts = false := by
  unfold fits
  rw [if_pos hp.1, decide_eq_false hp.2]
theorem outsR_met (a p : Int) (ts : List Int) : ∀ (l : List Gt) (e : List Int), (∀ g ∈ l, OkG g) → (∀ t ∈ e, t ∉ ts) → ∃ o ∈ outsR a p l e, met o ts ∧ oV o = val l a p ts
  | [], e, _, he => ⟨(0, -1, e, ()), List.mem_singleton.2 rfl, ⟨.inl rfl, he⟩, rfl⟩
  | g :: r, e, hl, he => by
    have ih := outsR_met a p ts r
    have hr : ∀ g ∈ r, OkG g := fun x hx => hl x (List.mem_cons_of_mem _ hx)
    have hg := hl g (List.mem_cons_self ..)
    unfold outsR
    split
    · rename_i h
      rw [val_skip (fun h1 => by
        rcases h with h | h
        · exact h h1.1
        · rw [fits_other h] at h1; cases h1.2)]
      exact ih e hr he
    · rename_i h
      have ha : gA g = a := Classical.byContradiction fun h1 => h (.inl h1)
      have hp : ¬ (0 ≤ gP g ∧ gP g ≠ p) := fun h1 => h (.inr h1)
      split
      · rename_i ht
        exact ⟨_, List.mem_singleton.2 rfl, ⟨.inl rfl, he⟩, (val_some ha (fits_all hp (okG_team hg ht) ts)).symm⟩
      · rename_i ht
        have hf := fits_team (okG_alone hg ht) ht p ts
        split
        · rename_i hm
          rw [val_skip (fun h1 => by rw [hf, decide_eq_true_iff] at h1; exact he _ hm h1.2)]
          exact ih e hr he
        · by_cases hm : gT g ∈ ts
          · exact ⟨_, List.mem_cons_self .., ⟨.inr hm, he⟩, (val_some ha (by rw [hf]; exact decide_eq_true hm)).symm⟩
          · rw [val_skip (fun h1 => by rw [hf, decide_eq_true_iff] at h1; exact hm h1.2)]
            obtain ⟨o, h1, h2⟩ := ih (e ++ [gT g]) hr (fun t h => by
              rcases List.mem_append.1 h with h | h
              · exact he t h
              · rw [List.mem_singleton.1 h]; exact hm)
            exact ⟨o, List.mem_cons_of_mem _ h1, h2⟩
theorem outsR_sup (a p : Int) : ∀ (l : List Gt) (e : List Int) (o : Oc), o ∈ outsR a p l e → ∀ t ∈ e, t ∈ oW o
  | [], e, o, h, t, ht => by rw [List.mem_singleton.1 h]; exact ht
  | g :: r, e, o, h, t, ht => by
    have ih := outsR_sup a p r
    unfold outsR at h
    split at h
    · exact ih e o h t ht
    · split at h
      · rw [List.mem_singleton.1 h]; exact ht
      · split at h
        · exact ih e o h t ht
        · rcases List.mem_cons.1 h with h | h
          · rw [h]; exact ht
          · exact ih _ o h t (List.mem_append_left _ ht)
theorem outsR_val (a p : Int) (ts : List Int) : ∀ (l : List Gt) (e : List Int), (∀ g ∈ l, OkG g) → ∀ o ∈ outsR a p l e, met o ts → oV o = val l a p ts
  | [], e, _, o, h, _ => by rw [List.mem_singleton.1 h]; rfl
  | g :: r, e, hl, o, h, hm => by
    have ih := outsR_val a p ts r
    have hr : ∀ g ∈ r, OkG g := fun x hx => hl x (List.mem_cons_of_mem _ hx)
    have hg := hl g (List.mem_cons_self ..)
    unfold outsR at h
    split at h
    · rename_i hc
      rw [val_skip (fun h1 => by
        rcases hc with hc | hc
        · exact hc h1.1
        · rw [fits_other hc] at h1; cases h1.2)]
      exact ih e hr o h hm
    · rename_i hc
      have ha : gA g = a := Classical.byContradiction fun h1 => hc (.inl h1)
      have hp : ¬ (0 ≤ gP g ∧ gP g ≠ p) := fun h1 => hc (.inr h1)
      split at h
      · rename_i ht
        rw [val_some ha (fits_all hp (okG_team hg ht) ts), List.mem_singleton.1 h]
        rfl
      · rename_i ht
        have hf := fits_team (okG_alone hg ht) ht p ts
        split at h
        · rename_i he
          rw [val_skip (fun h1 => by rw [hf, decide_eq_true_iff] at h1; exact hm.2 _ (outsR_sup a p r e o h _ he) h1.2)]
          exact ih e hr o h hm
        · rcases List.mem_cons.1 h with h | h
          · subst h
            rcases hm.1 with h1 | h1
            · exfalso
              have h1 : gT g = -1 := h1
              omega
            · rw [val_some ha (by rw [hf]; exact decide_eq_true h1)]
              rfl
          · rw [val_skip (fun h1 => by rw [hf, decide_eq_true_iff] at h1; exact hm.2 _ (outsR_sup a p r _ o h _ (List.mem_append_right _ (List.mem_singleton.2 rfl))) h1.2)]
            exact ih _ hr o h hm
/-- what an outcome names -/
theorem outsR_in (a p : Int) : ∀ (l : List Gt) (e : List Int) (o : Oc), o ∈ outsR a p l e → (∀ t ∈ e, 0 ≤ t) →
    (oN o = -1 ∨ (0 ≤ oN o ∧ oN o ∈ l.map gT ∧ oN o ∉ oW o)) ∧ ∀ t ∈ oW o, 0 ≤ t
  | [], e, o, h, he => by rw [List.mem_singleton.1 h]; exact ⟨.inl rfl, he⟩
  | g :: r, e, o, h, he => by
    have ih : ∀ (e : List Int), o ∈ outsR a p r e → (∀ t ∈ e, 0 ≤ t) → (oN o = -1 ∨ (0 ≤ oN o ∧ oN o ∈ (g :: r).map gT ∧ oN o ∉ oW o)) ∧ ∀ t ∈ oW o, 0 ≤ t := fun e h he => by
      obtain ⟨h1, h2⟩ := outsR_in a p r e o h he
      exact ⟨h1.imp id fun h1 => ⟨h1.1, List.mem_cons_of_mem _ h1.2.1, h1.2.2⟩, h2⟩
    unfold outsR at h
    split at h
    · exact ih e h he
    · split at h
      · rw [List.mem_singleton.1 h]; exact ⟨.inl rfl, he⟩
      · rename_i ht
        split at h
        · exact ih e h he
        · rename_i hn
          rcases List.mem_cons.1 h with h | h
          · rw [h]; exact ⟨.inr ⟨(by show 0 ≤ gT g; omega), List.mem_cons_self .., hn⟩, he⟩
          · exact ih _ h fun t ht' => by
              rcases List.mem_append.1 ht' with h1 | h1
              · exact he t h1
              · rw [List.mem_singleton.1 h1]; omega
/-- for these grants two persons, two lists of teams are alike -/
def alike (l : List Gt) (p q : Int) (ts us : List Int) : Prop := ∀ g ∈ l, (0 ≤ gP g → (gP g = p ↔ gP g = q)) ∧ (0 ≤ gT g → (gT g ∈ ts ↔ gT g ∈ us))
theorem fits_alike {g : Gt} (hg : OkG g) {p q : Int} {ts us : List Int} (h : (0 ≤ gP g → (gP g = p ↔ gP g = q)) ∧ (0 ≤ gT g → (gT g ∈ ts ↔ gT g ∈ us))) : fits g p ts = fits g q us := by
  unfold fits
  split
  · rename_i hp
    exact decide_eq_decide.2 (h.1 hp)
  · by_cases ht : gT g < 0
    · rw [decide_eq_true (okG_team hg ht)]; rfl
    · rw [decide_eq_decide.2 (h.2 (by omega))]
theorem val_alike {a p q : Int} {ts us : List Int} : ∀ {l : List Gt}, (∀ g ∈ l, OkG g) → alike l p q ts us → val l a p ts = val l a q us
  | [], _, _ => rfl
  | g :: r, hl, h => by
    have hr := val_alike (l := r) (a := a) (fun x hx => hl x (List.mem_cons_of_mem _ hx)) (fun x hx => h x (List.mem_cons_of_mem _ hx))
    have hf := fits_alike (hl g (List.mem_cons_self ..)) (h g (List.mem_cons_self ..))
    by_cases hc : gA g = a ∧ fits g p ts = true
    · rw [val_some hc.1 hc.2, val_some hc.1 (hf ▸ hc.2)]
    · rw [val_skip hc, val_skip (by rw [← hf]; exact hc), hr]
theorem alike.left {l m : List Gt} {p q : Int} {ts us : List Int} (h : alike (l ++ m) p q ts us) : alike l p q ts us := fun g hg => h g (List.mem_append_left _ hg)
theorem alike.right {l m : List Gt} {p q : Int} {ts us : List Int} (h : alike (l ++ m) p q ts us) : alike m p q ts us := fun g hg => h g (List.mem_append_right _ hg)
theorem overO_false {x y : Oc} (h : overO x y = false) (ht : tog x y = true) : oV x ≤ oV y := by
  unfold overO at h
  rw [ht, Bool.and_true, decide_eq_false_iff_not] at h
  omega
theorem tog_of_met {x y : Oc} {ts : List Int} (hx : met x ts) (hy : met y ts) (nx : ∀ t ∈ oW x, 0 ≤ t) (ny : ∀ t ∈ oW y, 0 ≤ t) : tog x y = true := by
  unfold tog
  rw [Bool.and_eq_true, decide_eq_true_iff, decide_eq_true_iff]
  constructor
  · intro h
    rcases hx.1 with h1 | h1
    · have := ny _ h; omega
    · exact hy.2 _ h h1
  · intro h
    rcases hy.1 with h1 | h1
    · have := nx _ h; omega
    · exact hx.2 _ h h1
theorem pstr_allLe (l m : List Gt) : pstr l m = true ↔ OkP l ∧ OkP m ∧ allLe l m := by
  have hacts : ∀ a : Int, a ∈ ([1, 2, 3] : List Int) ↔ (a = 1 ∨ a = 2 ∨ a = 3) := fun a => by simp
  unfold pstr
  rw [Bool.and_eq_true, Bool.and_eq_true, decide_eq_true_iff, decide_eq_true_iff, and_assoc]
  refine and_congr_right fun hl => and_congr_right fun hm => ?_
  rw [List.all_eq_true]
  constructor
  · intro h p ts a ha
    obtain ⟨p0, hp0, hal⟩ : ∃ p0 ∈ ((-2 : Int) :: (l ++ m).map gP), alike (l ++ m) p p0 ts ts := by
      by_cases hp : p ∈ (l ++ m).map gP
      · exact ⟨p, List.mem_cons_of_mem _ hp, fun g _ => ⟨fun _ => Iff.rfl, fun _ => Iff.rfl⟩⟩
      · exact ⟨-2, List.mem_cons_self .., fun g hg => ⟨fun h0 => ⟨fun e => (hp (e ▸ List.mem_map_of_mem hg)).elim, fun e => by omega⟩, fun _ => Iff.rfl⟩⟩
    rw [val_alike hl.2 hal.left, val_alike hm.2 hal.right]
    have h1 := h p0 hp0
    rw [List.all_eq_true] at h1
    have h2 := h1 a ((hacts a).2 ha)
    rw [List.all_eq_true] at h2
    obtain ⟨x, hx1, hx2, hx3⟩ := outsR_met a p0 ts l [] hl.2 (by simp)
    obtain ⟨y, hy1, hy2, hy3⟩ := outsR_met a p0 ts m [] hm.2 (by simp)
    have h3 := h2 x (by rw [outs_eq]; exact hx1)
    rw [Bool.not_eq_true', List.any_eq_false] at h3
    have h4 := h3 y (by rw [outs_eq]; exact hy1)
    rw [Bool.not_eq_true] at h4
    rw [← hx3, ← hy3]
    exact overO_false h4 (tog_of_met hx2 hy2 (outsR_in a p0 l [] x hx1 (by simp)).2 (outsR_in a p0 m [] y hy1 (by simp)).2)
  · intro h p _
    rw [List.all_eq_true]
    intro a ha
    have ha := (hacts a).1 ha
    rw [List.all_eq_true]
    intro x hx
    rw [outs_eq] at hx
    rw [Bool.not_eq_true', List.any_eq_false]
    intro y hy hov
    rw [outs_eq] at hy
    unfold overO at hov
    rw [Bool.and_eq_true, decide_eq_true_iff] at hov
    obtain ⟨hgt, htog⟩ := hov
    unfold tog at htog
    rw [Bool.and_eq_true, decide_eq_true_iff, decide_eq_true_iff] at htog
    have ix := outsR_in a p l [] x hx (by simp)
    have iy := outsR_in a p m [] y hy (by simp)
    obtain ⟨ts, hts⟩ : ∃ ts : List Int, ts = [oN x, oN y].filter (fun t => decide (t ∉ oW x) && decide (t ∉ oW y)) := ⟨_, rfl⟩
    have hn : ∀ t ∈ ts, t ∉ oW x ∧ t ∉ oW y := fun t h => by
      rw [hts, List.mem_filter, Bool.and_eq_true, decide_eq_true_iff, decide_eq_true_iff] at h
      exact h.2
    have mx : met x ts := by
      refine ⟨?_, fun t h h1 => (hn t h1).1 h⟩
      rcases ix.1 with h1 | h1
      · exact .inl h1
      · refine .inr ?_
        rw [hts, List.mem_filter, Bool.and_eq_true, decide_eq_true_iff, decide_eq_true_iff]
        exact ⟨List.mem_cons_self .., h1.2.2, htog.1⟩
    have my : met y ts := by
      refine ⟨?_, fun t h h1 => (hn t h1).2 h⟩
      rcases iy.1 with h1 | h1
      · exact .inl h1
      · refine .inr ?_
        rw [hts, List.mem_filter, Bool.and_eq_true, decide_eq_true_iff, decide_eq_true_iff]
        exact ⟨List.mem_cons_of_mem _ (List.mem_cons_self ..), htog.2, h1.2.2⟩
    have e1 := outsR_val a p ts l [] hl.2 x hx mx
    have e2 := outsR_val a p ts m [] hm.2 y hy my
    have := h p ts a ha
    omega
/-! ### the reference's comparison -/
theorem fst1_act {l : List Gt} {a p : Int} {ts : List Int} {g : Gt} (h : fst1 l a p ts = some g) : gA g = a := by
  have := List.find?_some h
  rw [Bool.and_eq_true, decide_eq_true_iff] at this
  exact this.1
theorem value_1 {g : Gt} (h : gA g = 1) : value g = gG g := if_pos h
theorem value_2 {g : Gt} (h : gA g = 2) : value g = 1 := by unfold value; rw [if_neg (by omega), if_neg (by omega)]
theorem value_3 {g : Gt} (h : gA g = 3) : value g = gR g + 1 := by unfold value; rw [if_neg (by omega), if_pos h]
theorem grain_val {l : List Gt} (hl : OkP l) (p : Int) (ts : List Int) : grain l p ts = val l 1 p ts := by
  unfold grain val
  rw [if_pos hl]
  cases h : fst1 l 1 p ts with
  | none => rfl
  | some g => exact (value_1 (fst1_act h)).symm
theorem book_val {l : List Gt} (hl : OkP l) (p : Int) (ts : List Int) : val l 2 p ts = if book l p ts = true then 1 else 0 := by
  unfold book val
  rw [decide_eq_true hl]
  cases h : fst1 l 2 p ts with
  | none => rfl
  | some g => exact value_2 (fst1_act h)
theorem rank_val {l : List Gt} (hl : OkP l) (p : Int) (ts : List Int) : val l 3 p ts = rank l p ts + 1 := by
  unfold rank val
  rw [if_pos hl]
  cases h : fst1 l 3 p ts with
  | none => rfl
  | some g => exact value_3 (fst1_act h)
theorem less_val {l m : List Gt} (hl : OkP l) (hm : OkP m) (p : Int) (ts : List Int) : less l m p ts = true ↔ ∀ a : Int, (a = 1 ∨ a = 2 ∨ a = 3) → val l a p ts ≤ val m a p ts := by
  have hb : (!book l p ts || book m p ts) = true ↔ val l 2 p ts ≤ val m 2 p ts := by
    rw [book_val hl, book_val hm]
    cases book l p ts <;> cases book m p ts <;> decide
  unfold less
  rw [Bool.and_eq_true, Bool.and_eq_true, hb, decide_eq_true_iff, decide_eq_true_iff, grain_val hl, grain_val hm]
  have e1 := rank_val hl p ts
  have e2 := rank_val hm p ts
  constructor
  · rintro ⟨⟨h1, h2⟩, h3⟩ a (rfl | rfl | rfl)
    · exact h1
    · exact h2
    · omega
  · intro h
    exact ⟨⟨h 1 (.inl rfl), h 2 (.inr (.inl rfl))⟩, by have := h 3 (.inr (.inr rfl)); omega⟩
theorem sub_filter {α : Type} (f : α → Bool) : ∀ l : List α, ∃ b, b < 2 ^ l.length ∧ sub l b = l.filter f
  | [] => ⟨0, Nat.lt_succ_self 0, rfl⟩
  | x :: r => by
    obtain ⟨b, h1, h2⟩ := sub_filter f r
    cases hf : f x with
    | true =>
      refine ⟨2 * b + 1, by rw [List.length_cons, Nat.pow_succ]; omega, ?_⟩
      unfold sub
      rw [if_pos (by omega), show (2 * b + 1) / 2 = b by omega, h2, List.filter_cons_of_pos hf]
    | false =>
      refine ⟨2 * b, by rw [List.length_cons, Nat.pow_succ]; omega, ?_⟩
      unfold sub
      rw [if_neg (by omega), show 2 * b / 2 = b by omega, h2, List.filter_cons_of_neg (by rw [hf]; decide)]
theorem fr_new {out : List Int} (h : ∀ x ∈ out, x < 512) : (fr out : Int) ∉ out := by
  unfold fr
  have hl : (List.range 513).findIdx (fun k : Nat => decide ((k : Int) ∉ out)) < (List.range 513).length := by
    refine List.findIdx_lt_length_of_exists ⟨512, by rw [List.mem_range]; omega, ?_⟩
    exact decide_eq_true fun h1 => by have := h _ h1; omega
  have h1 := List.findIdx_getElem (w := hl)
  rw [List.getElem_range, decide_eq_true_iff] at h1
  exact h1
theorem rstr_allLe (l m : List Gt) : rstr l m = true ↔ OkP l ∧ OkP m ∧ allLe l m := by
  unfold rstr
  rw [Bool.and_eq_true, Bool.and_eq_true, decide_eq_true_iff, decide_eq_true_iff, and_assoc]
  refine and_congr_right fun hl => and_congr_right fun hm => ?_
  have hok : ∀ g ∈ l ++ m, OkG g := fun g hg => (List.mem_append.1 hg).elim (hl.2 g) (hm.2 g)
  rw [List.all_eq_true]
  constructor
  · intro h p ts a ha
    obtain ⟨p0, hp0, hpp⟩ : ∃ p0 ∈ people l m, ∀ g ∈ l ++ m, 0 ≤ gP g → (gP g = p ↔ gP g = p0) := by
      unfold people
      by_cases hp : p ∈ pers l m
      · exact ⟨p, List.mem_append_left _ hp, fun _ _ _ => Iff.rfl⟩
      · refine ⟨_, List.mem_append_right _ (List.mem_singleton.2 rfl), fun g hg h0 => ?_⟩
        have hin : gP g ∈ pers l m := mem_dist.2 ⟨h0, List.mem_map_of_mem hg⟩
        have hfr : (fr (pers l m) : Int) ∉ pers l m := fr_new fun x hx => by
          obtain ⟨_, h1⟩ := mem_dist.1 hx
          obtain ⟨g', hg', rfl⟩ := List.mem_map.1 h1
          rcases (hok g' hg').2.1 with h2 | h2 <;> omega
        exact ⟨fun e => (hp (e ▸ hin)).elim, fun e => (hfr (e ▸ hin)).elim⟩
    obtain ⟨b, hb1, hb2⟩ := sub_filter (fun t => decide (t ∈ ts)) (teams l m)
    have h1 := h p0 hp0
    rw [List.all_eq_true] at h1
    have h2 := (less_val hl hm _ _).1 (h1 b (List.mem_range.2 hb1)) a ha
    have hal : alike (l ++ m) p p0 ts (sub (teams l m) b) := fun g hg => ⟨hpp g hg, fun h0 => by
      rw [hb2, List.mem_filter, decide_eq_true_iff]
      exact ⟨fun h3 => ⟨mem_dist.2 ⟨h0, List.mem_map_of_mem hg⟩, h3⟩, fun h3 => h3.2⟩⟩
    rw [val_alike hl.2 hal.left, val_alike hm.2 hal.right]
    exact h2
  · intro h p _
    rw [List.all_eq_true]
    intro b _
    exact (less_val hl hm _ _).2 fun a ha => h p _ a ha
theorem pstr_rstr (l m : List Gt) : pstr l m = rstr l m := by
  rw [Bool.eq_iff_iff, pstr_allLe, rstr_allLe]
theorem allLe.refl (l : List Gt) : allLe l l := fun _ _ _ _ => Int.le_refl _
theorem allLe.trans {l m n : List Gt} (h : allLe l m) (k : allLe m n) : allLe l n := fun p ts a ha => Int.le_trans (h p ts a ha) (k p ts a ha)
end Go.Proofs.YtbbeldmcdjjnbaaGreatDoor
