/-
  Package digest, fifth part: hash, Sum.
  Package digest, sixth part: Sum, Fields, Keyed.
-/
import Derived.Test.YtbbeldmcdjjnbaaDoorDPrgM
import Derived.Test.YtbbeldmcdjjnbaaDoorAbsMore
namespace Go.Proofs.YtbbeldmcdjjnbaaDoor
open Go Go.RowKit
set_option linter.unusedSimpArgs false
set_option linter.unusedVariables false
set_option maxRecDepth 100000
theorem blks_get {p y : List UInt8} {k : Nat} (h : (blksOf p)[k]? = some y) : 64 * k < p.length ∧ y = (p.drop (64 * k)).take 64 ∧ (p.length % 64 = 0 → y.length = 64) := by
  unfold blksOf at h
  rw [List.getElem?_map, Option.map_eq_some_iff] at h
  obtain ⟨j, hj, rfl⟩ := h
  rw [List.getElem?_eq_some_iff] at hj
  obtain ⟨h1, h2⟩ := hj
  simp at h1 h2
  subst h2
  refine ⟨by omega, rfl, fun h => ?_⟩
  unfold blk
  simp
  omega
def rAct0 (a : Act) (x : Value) : Act := { tmps := ((#[10] : Array Tmp).zip #[x]).foldl (fun t (p, v) => t.setIfInBounds p v) a.tmps, defers := [] }
def rAct (a : Act) (x : Value) : Act := (rAct0 a x).put (some 4) ((rAct0 a x).eval (.tmp 10))
theorem rAct0_tmps (a : Act) (x : Value) : (rAct0 a x).tmps = a.tmps.setIfInBounds 10 x := by simp [rAct0]
def cHash : Ctr := { args := [.slice bs], pre := fun x => [(List.flatten x.1).length ≤ 2000000], res := dg, own := none, out := fun x => sha (List.flatten x.1) }
def seqR : Code → Code
  | .seq _ y => y
  | c => c
theorem hash_tail (m : List UInt8) (t : St) (hfin : sha m = digestOf t) {W : World} {X : Ownr} (hX : X.Ok W) (hK : KnOk Tryd.prog X.G dK) (hK2 : X.K = 2) :
    AWP Tryd.prog W X 30 (seqR (seqR (seqR (Tryd.f47.body.getD .skip)))) ⟨[(2, ⟨.optr dg, ⟨0, dg, .here⟩⟩), (3, ⟨.optr arr8, ⟨1, arr8, .here⟩⟩)], [(0, some (.box dg (List.replicate 32 (0 : UInt8)))), (1, some (.box arr8 (stWords t)))], 2⟩
      (fun e σ => (e = .normal ∨ e = .ret) ∧ Done dK.T Tryd.f47.results.toList σ none dg (sha m)) := by
  refine AWP.seq ?_
  (repeat (first | refine AWP.seq ?_ | refine AWP.skip ?_ | refine AWP.block ?_ | refine AWP.exit ?_)); refine AWP.region hX hK rfl ?_ ?_
  · trivial
  (repeat (first | refine AWP.seq ?_ | refine AWP.skip ?_ | refine AWP.label ?_ | refine AWP.exit ?_ | refine AWP.block ?_ | refine AWP.region hX hK rfl trivial ?_ | refine AWP.region hX hK rfl id ?_ | refine AWP.region hX hK rfl ⟨id, id⟩ ?_))
  refine AWP.loop (ι := Nat) (fun i => ⟨[(2, ⟨.optr dg, ⟨0, dg, .here⟩⟩), (3, ⟨.optr arr8, ⟨1, arr8, .here⟩⟩), (5, ⟨.optr dg, ⟨2, dg, .here⟩⟩), (13, ⟨i64, (i : Int)⟩)], [(0, some (.box dg (List.replicate 32 (0 : UInt8)))), (1, some (.box arr8 (stWords t))), (2, some (.box dg (digL t i)))], 3⟩) (fun i => i ≤ 32) (fun i => 32 - i) 0 (by omega) ⟨⟨rfl, rfl, rfl, rfl, trivial⟩, ⟨rfl, rfl, boxEq rfl, trivial⟩, rfl, rfl⟩ ?_ (fun _ => by rw [hK2]; exact Nat.le_of_ble_eq_true rfl)
  intro i hi
  (repeat (first | refine AWP.seq ?_ | refine AWP.skip ?_ | refine AWP.label ?_ | refine AWP.exit ?_ | refine AWP.block ?_ | refine AWP.region hX hK rfl trivial ?_ | refine AWP.region hX hK rfl id ?_ | refine AWP.region hX hK rfl ⟨id, id⟩ ?_))
  refine AWP.cond rfl (fun hb => ?_) (fun hb => ?_)
  · simp at hb
    have e4 : ((i : Int)).tdiv 4 = ((i / 4 : Nat) : Int) := rfl
    have r4 : ((i : Int)).tmod 4 = ((i % 4 : Nat) : Int) := rfl
    (repeat (first | refine AWP.seq ?_ | refine AWP.skip ?_ | refine AWP.label ?_ | refine AWP.exit ?_ | refine AWP.block ?_ | refine AWP.region hX hK rfl trivial ?_ | refine AWP.region hX hK rfl id ?_ | refine AWP.region hX hK rfl ⟨id, id⟩ ?_))
    (repeat (first | refine AWP.seq ?_ | refine AWP.skip ?_ | refine AWP.block ?_ | refine AWP.exit ?_)); refine AWP.region hX hK rfl ?_ ?_
    · simp only [allP, inR64, e4, r4]
      and_intros <;> first | omega | (simp; done) | (simp; omega)
    (repeat (first | refine AWP.seq ?_ | refine AWP.skip ?_ | refine AWP.block ?_ | refine AWP.exit ?_)); refine AWP.region hX hK rfl ?_ ?_
    · exact inR_succ (by omega)
    refine ⟨i + 1, by omega, by omega, ⟨rfl, rfl, rfl, vSucc _, trivial⟩, ⟨rfl, rfl, boxEq ?_, trivial⟩, rfl, rfl⟩
    rw [← digL_set t i (by omega)]
    show List.set (digL t i) (i : Int).toNat (UInt8.ofNat (BitVec.toNat ((List.getD (stWords t) (((i : Int)).tdiv 4).toNat 0) >>> (24 - 8 * ((i : Int)).tmod 4).toNat))) = _
    rw [e4, r4]
    unfold digestByte lo8
    congr 4
    omega
  · simp at hb
    have : i = 32 := by omega
    subst this
    (repeat (first | refine AWP.seq ?_ | refine AWP.skip ?_ | refine AWP.label ?_ | refine AWP.exit ?_ | refine AWP.block ?_ | refine AWP.region hX hK rfl trivial ?_ | refine AWP.region hX hK rfl id ?_ | refine AWP.region hX hK rfl ⟨id, id⟩ ?_))
    refine AWP.ret ⟨.inr rfl, done1 rfl trivial rfl rfl ?_⟩
    show digL t 32 = sha m
    rw [hfin]
    simp [digL, digestOf]
set_option maxHeartbeats 400000 in
theorem hash_ok : CtrOk Tryd.prog dG 47 cHash := by
  refine ⟨Tryd.call47, fun w O xs vs hO hrep hp hG => ?_⟩
  obtain ⟨(parts : List (List UInt8)), _⟩ := xs
  have hp : parts.flatten.length ≤ 2000000 := hp
  obtain ⟨v, _, rfl, hv, rfl⟩ := hrep
  have hv : RepD w O (.slice bs) parts v := hv
  let X := Ownr.plain dG O
  have hXR : ∀ g, ¬ X.R g := Ownr.plain_noR _ _
  have hX : X.Ok w := ⟨fun g h => ⟨hO g h, hXR g⟩, fun g h => (hXR g h).elim, fun w' hk => dG_st _ _ hG (hk.below hXR)⟩
  refine (callsIn_wide (n := 0)).1 (callsIn_of_wp_marks Tryd.func47 rfl trivial ?_ rfl)
  have hsim : Sim w X 30 ⟨[(0, ⟨.slice bs, parts⟩)], [], 0⟩ (fun _ => undef) { tmps := [v].toArray ++ Array.replicate (Tryd.f47.ntmps - [v].toArray.size) undef, defers := [] } w := by
    refine Sim.fresh rfl (by simp [Tryd.ntmps47]) rfl (rep_cons ?_ rep_nil) rfl
    rw [getD_app (by simp)]
    exact repD_repV hv
  suffices h : RWP Tryd.prog w X 30 (Tryd.f47.body.getD .skip) ⟨[(0, ⟨.slice bs, parts⟩)], [], 0⟩ (bodyPostM Fence.wide 0 Tryd.prog Tryd.f47 fun e w' => ∃ v, e = .returned v ∧ Below w.heap.size w w' ∧ ResRel w' O w.heap.size none dg (sha parts.flatten) v) from h _ _ _ hsim
  refine RWP.seq ?_
  (repeat (first | refine AWP.seq ?_ | refine AWP.skip ?_ | refine AWP.block ?_ | refine AWP.exit ?_)); refine AWP.region hX dK_ok rfl ?_ ?_
  · trivial
  refine RWP.seq ?_
  (repeat (first | refine AWP.seq ?_ | refine AWP.skip ?_ | refine AWP.block ?_ | refine AWP.exit ?_)); refine AWP.region hX dK_ok rfl ?_ ?_
  · trivial
  intro β a w1 h1
  replace h1 := h1.fit (σ' := ⟨[(0, ⟨.slice bs, parts⟩), (2, ⟨.optr dg, ⟨0, dg, .here⟩⟩), (3, ⟨.optr arr8, ⟨1, arr8, .here⟩⟩)], [(0, some (.box dg (List.replicate 32 (0 : UInt8)))), (1, some (.box arr8 (stWords st0)))], 2⟩) ⟨⟨rfl, rfl, rfl, trivial⟩, ⟨rfl, rfl, trivial⟩, rfl, rfl⟩ (Nat.zero_le _)
  refine wpIn_seq (wpIn_seq ?_)
  -- the iterator is made
  have hb1 : Below w.heap.size w w1 := h1.bel.below hXR
  obtain ⟨g1, cs1, ty1, hβ1, _, hg1, hr1⟩ := h1.own 1 _ rfl
  obtain ⟨g0, cs0, ty0, hβ0, _, hg0, _⟩ := h1.own 0 _ rfl
  have hn1 : w.heap.size ≤ g1 := (h1.new 1 _ g1 rfl (by rw [hβ1]; rfl)).resolve_right (hXR g1)
  have hn0 : w.heap.size ≤ g0 := (h1.new 0 _ g0 rfl (by rw [hβ0]; rfl)).resolve_right (hXR g0)
  have hne : g0 ≠ g1 := fun e => h1.inj 0 1 _ _ rfl rfl (by decide) g0 (by rw [hβ0]; rfl) (by rw [hβ1, e]; rfl)
  have hl1 : g1 < w1.heap.size := (Array.getElem?_eq_some_iff.1 hg1).1
  have hl0 : g0 < w1.heap.size := (Array.getElem?_eq_some_iff.1 hg0).1
  have hs0 : RepV w1 (OSet X _ β) β (.slice bs) parts (a.tmps.getD 0 undef) := h1.fr 0
  obtain ⟨A, c, hsl, _, _⟩ := (RepV.slice hs0).nlen
  have h2 := h1.put (Below.refl _ _) (v := ⟨.slice bs, parts⟩) (d := 8) hs0 (Nat.zero_le _) (by omega)
  refine Go.wpIn_mono (Q := fun e a' w' => e = .normal ∧ a' = (a.put (some 8) (a.tmps.getD 0 undef)).put (some 9) (.func (.func 69) #[] #[.pointer (some ⟨w1.heap.size, 0, none⟩)]) ∧ w' = w1.alloc (.cells #[a.tmps.getD 0 undef] 125)) ?_ ?_
  · refine wpIn_region_list ?_
    refine wpListIn_move (ρ := none) (.inl rfl) rfl ?_
    refine wpListIn_plain rfl fun K hK => wpIn_of_wp (ρ := none) (fun c e => by cases e) (wp_enter (f := 58) rfl Tryd.call58 ?_)
    have harg : (a.put (some 8) (a.tmps.getD 0 undef)).eval (.tmp 8) = a.tmps.getD 0 undef := by
      show (a.put (some 8) (a.tmps.getD 0 undef)).tmps.getD 8 undef = _
      rw [Act.put_get (by rw [h1.sz]; omega), if_pos rfl]
    have hargs : ((#[Operand.tmp 8].toList.map (a.put (some 8) (a.tmps.getD 0 undef)).eval).toArray : Array Value) = #[.slice A parts.length c] := by
      show #[(a.put (some 8) (a.tmps.getD 0 undef)).eval (.tmp 8)] = _
      rw [harg, hsl]
    show Calls _ _ ((#[Operand.tmp 8].toList.map (a.put (some 8) (a.tmps.getD 0 undef)).eval).toArray) _ _
    rw [hargs]
    refine (blocks_call A parts.length c w1).mono ?_
    rintro e w' ⟨rfl, rfl⟩
    exact ⟨_, rfl, hK _ _ ⟨rfl, rfl, by rw [hsl]⟩⟩
  rintro e a3 w3 ⟨rfl, ha3, hw3⟩
  have hb3 : Below w1.heap.size w1 w3 := by rw [hw3]; exact below_alloc _ _
  have h3 := h2.put hb3 (v := ⟨.junk, ()⟩) (u := .func (.func 69) #[] #[.pointer (some ⟨w1.heap.size, 0, none⟩)]) trivial (Nat.zero_le _) (d := 9) (by omega)
  rw [show a.put (some 8) (a.tmps.getD 0 undef) = a.put (some 8) (a.tmps.getD 0 undef) from rfl, ← ha3] at h3
  have hgf : a3.tmps.getD 9 undef = .func (.func 69) #[] #[.pointer (some ⟨w1.heap.size, 0, none⟩)] := by
    rw [ha3, Act.put_get (by rw [Act.put_size, h1.sz]; omega), if_pos rfl]
  have hg3 : w3.heap[w1.heap.size]? = some (.cells #[a.tmps.getD 0 undef] 125 (0, 0)) := by rw [hw3]; exact World.alloc_heap_new _ _
  have hv3 : RepD w3 (fun _ => False) (.slice bs) parts (a.tmps.getD 0 undef) := RepD.keep (w := w1) (O := OSet X _ β) (.of_below hb3 fun g _ h => h.elim) hs0
  have hk3 : w3.heap[g1]? = some (.cells cs1.toArray ty1 (0, 0)) := (hb3.block g1 hl1).trans hg1
  have hl13 : g1 < w3.heap.size := Nat.lt_of_lt_of_le hl1 hb3.size
  have hG3 : dG w3 := dG_st _ _ hG (hb1.trans (hb3.mono hb1.size))
  refine wpIn_block ?_
  obtain ⟨p, hpd⟩ : ∃ p, pad parts.flatten = p := ⟨_, rfl⟩
  have hpm : p.length % 64 = 0 := hpd ▸ pad_length _
  refine wpIn_wide.2 (wp_rangeBlk (n := 2) (w0 := w3) (t := bs) (blks := blksOf p) hgf Tryd.call69 (hpd ▸ blocks1_seq w1.heap.size parts _ w3 _ hg3 hv3 hp) (Below.refl _ _)
    (fun k W => ∃ cs ty, W.heap[g1]? = some (.cells (List.toArray cs) ty (0, 0)) ∧ RepC W (fun _ => True) arr8 (stWords (blocksTo p k)) cs ∧ Kept (fun h => h = g1) w3 W) ?_ ⟨cs1, ty1, hk3, repC_flat arr8 rfl _ _ hr1, Kept.refl _ _⟩
    (fun x => rAct a3 x) ?_ ?_ ?_)
  · rintro k A C ⟨cs, ty, hi1, hi2, hi3⟩ hb
    exact ⟨cs, ty, (hb.block g1 hl13).trans hi1, repC_flat arr8 rfl _ _ hi2, hb.os.trans hi3.os, hb.tape.trans hi3.tape, hb.output.trans hi3.output, Nat.le_trans hi3.size hb.size, fun j hj hne => (hb.block j hj).trans (hi3.block j hj hne)⟩
  · intro l x W K hK
    refine wpIn_region_list ?_
    exact wpListIn_move (ρ := some l) (.inr rfl) rfl hK
  · rintro l k x y W ⟨cs, ty, hi1, hi2, hi3⟩ hy hsz hx
    obtain ⟨hk, hye, hyl⟩ := blks_get hy
    refine wpIn_block ?_
    refine Go.wpIn_mono (Q := fun e a' w' => e = .normal ∧ KeptFrom w3.heap.size W w' ∧ ∃ cs ty, w'.heap[g1]? = some (.cells (List.toArray cs) ty (0, 0)) ∧ RepC w' (fun _ => True) arr8 (stWords (blocksTo p (k + 1))) cs ∧ Kept (fun h => h = g1) w3 w') ?_ (fun e a' w' ⟨he, h⟩ => by subst he; exact ⟨rfl, h⟩)
    refine wpIn_region_list ?_
    refine wpListIn_move (ρ := some l) (.inl rfl) rfl ?_
    refine wpListIn_plain rfl fun K hK => wpIn_of_wp (ρ := some l) (fun c e => by cases e) (wp_enter (f := 59) rfl add_ok.1 ?_)
    have hsz3 : a3.tmps.size = 30 := h3.sz
    have e3 : a3.tmps.getD 3 undef = .pointer (some ⟨g1, 0, none⟩) := by
      obtain ⟨g, hq1, hq2⟩ : RepV w3 _ β (.optr arr8) ⟨1, arr8, .here⟩ (a3.tmps.getD 3 undef) := h3.fr 3
      rw [hβ1] at hq1
      cases hq1
      exact hq2
    generalize hact : (Act.put _ (some 11) _ : Act) = act
    have hargs : (#[Operand.tmp 3, Operand.tmp 11].toList.map act.eval).toArray = (Value.pointer (some ⟨g1, 0, none⟩) :: [x]).toArray := by
      have q1 : act.eval (.tmp 3) = .pointer (some ⟨g1, 0, none⟩) := by
        rw [← e3, ← hact]
        show Array.getD _ 3 undef = _
        rw [Act.put_get (by rw [rAct, Act.put_size, rAct0_tmps]; simp [hsz3]), if_neg (by decide), rAct, Act.put_get (by rw [rAct0_tmps]; simp [hsz3]), if_neg (by decide), rAct0_tmps]
        simp [Array.getD_eq_getD_getElem?, Array.getElem?_setIfInBounds]
      have q2 : act.eval (.tmp 11) = x := by
        rw [← hact]
        show Array.getD _ 11 undef = _
        rw [Act.put_get (by rw [rAct, Act.put_size, rAct0_tmps]; simp [hsz3]), if_pos rfl]
        show (rAct a3 x).tmps.getD 4 undef = _
        rw [rAct, Act.put_get (by rw [rAct0_tmps]; simp [hsz3]), if_pos rfl]
        show (rAct0 a3 x).tmps.getD 10 undef = _
        rw [rAct0_tmps]
        simp [Array.getD_eq_getD_getElem?, Array.getElem?_setIfInBounds, hsz3]
      show #[act.eval (.tmp 3), act.eval (.tmp 11)] = _
      rw [q1, q2]
    have hcall := add_ok.2 W (fun _ => False) g1 cs ty (stWords (blocksTo p k)) (y, ()) [x] (fun h hh => hh.elim) hi1 (repC_flat arr8 rfl _ _ hi2)
      ⟨x, [], rfl, hx.keep ⟨Nat.le_refl _, fun _ _ _ => rfl, fun g _ hg => (hg : False ∨ g = g1).elim (fun h => h.elim) fun h => (by omega : g < w3.heap.size + 2)⟩, rfl⟩ (hyl hpm) (by have := hG.1; show g1 ≠ _; omega) (dG_kept (R := fun h => h = g1) (by have := hG.1; omega) hG3 hi3)
    rw [hargs]
    refine hcall.mono ?_
    rintro e w' ⟨v', cs', ty', rfl, hk', hc', hr', _⟩
    refine ⟨_, rfl, hK _ _ ⟨rfl, ⟨hk'.os, hk'.tape, hk'.output, hk'.size, fun j hj hjl => hk'.block j hjl (by omega)⟩, cs', ty', hc', ?_, ?_⟩⟩
    · have : stWords (compress (stOf (stWords (blocksTo p k))) y) = stWords (blocksTo p (k + 1)) := by rw [stOf_words, hye]; rfl
      rw [← this]
      exact repC_flat arr8 rfl _ _ hr'
    · exact ⟨hk'.os.trans hi3.os, hk'.tape.trans hi3.tape, hk'.output.trans hi3.output, Nat.le_trans hi3.size hk'.size, fun j hj hne => (hk'.block j (Nat.lt_of_lt_of_le hj hi3.size) hne).trans (hi3.block j hj hne)⟩
  · rintro W ⟨cs, ty, hi1, hi2, hi3⟩ hdef
    have hn : (blksOf p).length = p.length / 64 := by simp [blksOf]
    rw [hn] at hi2
    have hfin : sha parts.flatten = digestOf (blocksTo p (p.length / 64)) := by rw [sha, hpd]
    generalize blocksTo p (p.length / 64) = t at *
    have h4 := h3.write (i := 1) (w' := W) (o' := .box arr8 (stWords t)) rfl ⟨hi3.os, hi3.tape, hi3.output, hi3.size, fun j hj hne => hi3.block j hj (fun e => hne (by rw [hβ1, e]; rfl))⟩ (fun _ => ⟨g1, cs, ty, hβ1, Nat.zero_le _, hi1, repC_flat arr8 rfl _ _ hi2⟩) rfl
    have h5 := h4.anchor (fun i => if i = 0 then g0 else g1) (fun i hi => by
      rcases (show i = 0 ∨ i = 1 by have : i < 2 := hi; omega) with rfl | rfl
      · exact ⟨by rw [hβ0]; rfl, fun o ho => by cases ho; rfl⟩
      · exact ⟨by rw [hβ1]; rfl, fun o ho => by cases ho; rfl⟩) [{ target := .collected w3.heap.size, args := #[] }]
    generalize hX5 : ({ X with K := _, fix := _, D := _ } : Ownr) = X5 at h5
    have hR5 : ∀ g, X5.R g → g = g0 ∨ g = g1 := by
      rintro g (⟨i, hi, hf⟩ | hB)
      · rw [← hX5] at hi hf
        rcases (show i = 0 ∨ i = 1 by have : i < 2 := hi; omega) with rfl | rfl
        · exact .inl hf.symm
        · exact .inr hf.symm
      · rw [← hX5] at hB
        exact False.elim hB
    have hl3W : w3.heap.size ≤ W.heap.size := hi3.size
    have hl01 : g0 < W.heap.size ∧ g1 < W.heap.size := ⟨by have := hb3.size; omega, by omega⟩
    have hGW : dG W := dG_kept (R := fun h => h = g1) (by have := hG.1; omega) hG3 hi3
    have hX5ok : X5.Ok W := by
      refine ⟨fun g hg => ?_, fun g hg => ?_, fun w' hk => ?_⟩
      · have hg : O g := by rw [← hX5] at hg; exact hg
        have := hO g hg
        exact ⟨by omega, fun hr => by rcases hR5 g hr with h | h <;> omega⟩
      · rcases hR5 g hg with h | h <;> omega
      · have : dG w' := dG_kept (R := X5.R) (fun hr => by have := hG.1; rcases hR5 _ hr with h | h <;> omega) hGW hk
        rw [← hX5]; exact this
    have hK5 : KnOk Tryd.prog X5.G dK := by rw [← hX5]; exact dK_ok
    have hρ : X5.ρ = none := by rw [← hX5]; rfl
    have hK2 : X5.K = 2 := by rw [← hX5]
    have h5' := h5.fit (σ' := ⟨[(2, ⟨.optr dg, ⟨0, dg, .here⟩⟩), (3, ⟨.optr arr8, ⟨1, arr8, .here⟩⟩)], [(0, some (.box dg (List.replicate 32 (0 : UInt8)))), (1, some (.box arr8 (stWords t)))], 2⟩) ⟨⟨rfl, rfl, trivial⟩, ⟨rfl, rfl, trivial⟩, rfl, rfl⟩ (by rw [hK2]; exact Nat.le_refl _)
    show Code.wpIn (wideR none) 0 Tryd.prog (seqR (seqR (seqR (Tryd.f47.body.getD .skip)))) _ _ W
    rw [show a3.defers = [] from h3.df]
    have h6 := hash_tail parts.flatten t hfin hX5ok hK5 hK2 β _ W h5'
    rw [hρ] at h6
    refine Go.wpIn_mono h6 ?_
    rintro e a6 w6 ⟨σ6, β6, h6, he, hdone⟩
    have hdef6 : w6.heap[w3.heap.size]? = some (.deferred (some [])) := by
      have hlt : w3.heap.size < W.heap.size := (Array.getElem?_eq_some_iff.1 hdef).1
      rw [h6.bel.block _ hlt (fun hr => by have := hb3.size; rcases hR5 _ hr with h | h <;> omega)]
      exact hdef
    have hbel : Below w.heap.size w (w6.putObj w3.heap.size (.deferred none)) := by
      have q1 : Below w.heap.size w w3 := hb1.trans (hb3.mono hb1.size)
      have q2 : Below w.heap.size w3 W := ⟨hi3.os, hi3.tape, hi3.output, hi3.size, fun j hj => hi3.block j (Nat.lt_of_lt_of_le hj q1.size) (by omega)⟩
      have q3 : Below w.heap.size W w6 := ⟨h6.bel.os, h6.bel.tape, h6.bel.output, h6.bel.size, fun j hj => h6.bel.block j (by have := q1.size; omega) fun hr => by rcases hR5 _ hr with h | h <;> omega⟩
      exact ((q1.trans q2).trans q3).trans (below_putObj hdef6 q1.size)
    have hfinal : LeavesInM Fence.wide 0 Tryd.prog Tryd.f47 a6.tmps (fun e w' => ∃ v, e = .returned v ∧ Below w.heap.size w w' ∧ ResRel w' O w.heap.size none dg (sha parts.flatten) v) a6.defers .returning w6 :=
      leaves_mark hK5 hX5ok h6 (by rw [← hX5]) hdef6 hdone (.inl rfl) fun v hv => ⟨v, rfl, hbel, fun β => repV_flat (t := dg) rfl (hv.resolve_left (by intro h; cases h) β)⟩
    rcases he with rfl | rfl
    · exact hfinal
    · exact hfinal
end Go.Proofs.YtbbeldmcdjjnbaaDoor
namespace Go.Proofs.YtbbeldmcdjjnbaaDoor
open Go Go.RowKit
set_option linter.unusedSimpArgs false
set_option linter.unusedVariables false
set_option maxRecDepth 100000
def kH : Kn := { dK with C := [(47, cHash)] }
theorem kH_ok : KnOk Tryd.prog dG kH := dK_ok.with (CsOk.cons hash_ok CsOk.nil)
def cSum : Ctr := { args := [bs], pre := fun x => [List.length x.1 ≤ 2000000], res := dg, own := none, out := fun x => sha x.1 }
def encParts (l : List (List UInt8)) : List (List UInt8) := l.flatMap fun b => [le64 b.length, b]
theorem encParts_flatten (l : List (List UInt8)) : (encParts l).flatten = encoding l := by
  unfold encParts encoding
  induction l with
  | nil => rfl
  | cons b l ih => simp [ih]
theorem encParts_succ (l : List (List UInt8)) (k : Nat) (h : k < l.length) : encParts (l.take (k + 1)) = encParts (l.take k) ++ [le64 (l.getD k []).length, l.getD k []] := by
  unfold encParts
  rw [List.take_succ_eq_append_getElem h, List.flatMap_append]
  congr 1
  simp [List.getD, h]
theorem le64_set (n i : Nat) (h : i < 8) (y : UInt8) (hy : y = UInt8.ofNat (n / 2 ^ (8 * i))) : ((le64 n).take i ++ List.replicate (8 - i) 0).set i y = (le64 n).take (i + 1) ++ List.replicate (8 - (i + 1)) 0 := by
  subst hy
  rcases (by omega : i = 0 ∨ i = 1 ∨ i = 2 ∨ i = 3 ∨ i = 4 ∨ i = 5 ∨ i = 6 ∨ i = 7) with rfl | rfl | rfl | rfl | rfl | rfl | rfl | rfl <;> rfl
theorem le64_byte (n i : Nat) (h : n ≤ 9223372036854775807) (hi : i < 8) : UInt8.ofNat (BitVec.toNat (BitVec.ofInt 64 (n : Int) >>> (8 * (i : Int)).toNat)) = UInt8.ofNat (n / 2 ^ (8 * i)) := by
  congr 1
  rw [BitVec.toNat_ushiftRight, Nat.shiftRight_eq_div_pow, BitVec.toNat_ofInt]
  rw [show (8 * (i : Int)).toNat = 8 * i by omega]
  congr 1
  omega
theorem encParts_len (l : List (List UInt8)) : (encParts l).length = 2 * l.length := by
  unfold encParts
  induction l with
  | nil => rfl
  | cons b l ih => simp only [List.flatMap_cons, List.length_append, ih]; simp; omega
theorem encoding_ge (l : List (List UInt8)) : 8 * l.length ≤ (encoding l).length := by
  unfold encoding
  induction l with
  | nil => simp
  | cons b l ih => simp only [List.flatMap_cons, List.length_append, List.length_cons, le64, List.length_map, List.length_range] at ih ⊢; omega
def cFields : Ctr := { args := [.slice bs], pre := fun x => [(encoding x.1).length ≤ 2000000], res := dg, own := none, out := fun x => fields x.1 }
def mixX (l : List UInt8) (c : UInt8) (i : Nat) : List UInt8 := (l.take i).map (· ^^^ c) ++ l.drop i
theorem mixX_set (l : List UInt8) (c : UInt8) (i : Nat) (h : i < l.length) : (mixX l c i).set i ((mixX l c i).getD i 0 ^^^ c) = mixX l c (i + 1) := by
  unfold mixX
  have hl : ((l.take i).map (· ^^^ c)).length = i := by simp; omega
  have hg : (((l.take i).map (· ^^^ c)) ++ l.drop i).getD i 0 = l[i] := by
    rw [List.getD_eq_getElem?_getD, List.getElem?_append_right (by omega), hl]
    simp [h]
  rw [hg, List.set_append_right _ _ (by omega), hl, Nat.sub_self, List.drop_eq_getElem_cons h, List.set_cons_zero, List.take_succ_eq_append_getElem h, List.map_append]
  simp only [List.map_cons, List.map_nil, List.append_assoc, List.cons_append, List.nil_append]
theorem mixX_all (key : List UInt8) (c : UInt8) (h : key.length = 32) : mixX (key ++ List.replicate 32 0) c 64 = keyBlock key c := by
  unfold mixX keyBlock
  rw [List.take_of_length_le (by simp [h]), List.drop_eq_nil_of_le (by simp [h])]
  simp
theorem mixX_zero (l : List UInt8) (c : UInt8) : l = mixX l c 0 := rfl
theorem mixX_len (l : List UInt8) (c : UInt8) (i : Nat) : (mixX l c i).length = l.length := by
  unfold mixX; simp; omega
def cKeyed : Ctr := { args := [dg, bs], pre := fun x => [List.length x.2.1 ≤ 1000000], res := dg, own := none, out := fun x => hmac x.1 x.2.1 }
theorem keyed_ok : CtrOk Tryd.prog dG 36 cKeyed := by
  refine ctr_of_awp (K := kH) kH_ok Tryd.func36 rfl rfl Tryd.call36 rfl (by decide) (by intro h; cases h) ?_
  rintro w0 X hX ⟨(key : List UInt8), (l : List UInt8), _⟩ hp
  change AWP _ _ _ _ _ ⟨[(0, ⟨dg, key⟩), (1, ⟨bs, l⟩)], [], 0⟩ _
  have hp : l.length ≤ 1000000 := hp
  refine AWP.alen 0 rfl fun hkl => ?_
  have hkl : key.length = 32 := hkl
  (repeat (first | refine AWP.seq ?_ | refine AWP.skip ?_ | refine AWP.block ?_ | refine AWP.exit ?_)); refine AWP.region hX kH_ok rfl ?_ ?_
  · trivial
  (repeat (first | refine AWP.seq ?_ | refine AWP.skip ?_ | refine AWP.block ?_ | refine AWP.exit ?_)); refine AWP.region hX kH_ok rfl ?_ ?_
  · trivial
  refine AWP.frzB hX 2 ?_
  refine AWP.seq ?_
  refine AWP.copyArr dM hX kH_ok rfl rfl rfl rfl rfl rfl rfl rfl rfl rfl rfl rfl rfl rfl rfl (by decide) (by decide) (by decide) (by decide) (by decide) (by decide) (by kernel_rfl) ?_
  obtain ⟨base, hbase⟩ : ∃ base, key ++ List.replicate 32 0 = base := ⟨_, rfl⟩
  have hbl : base.length = 64 := by rw [← hbase]; simp [hkl]
  (repeat (first | refine AWP.seq ?_ | refine AWP.skip ?_ | refine AWP.label ?_ | refine AWP.exit ?_ | refine AWP.block ?_ | refine AWP.region hX kH_ok rfl trivial ?_ | refine AWP.region hX kH_ok rfl id ?_ | refine AWP.region hX kH_ok rfl ⟨id, id⟩ ?_))
  refine AWP.loop (ι := Nat) (fun i => ⟨[(1, ⟨bs, l⟩), (4, ⟨.optr dg, ⟨1, dg, .here⟩⟩), (5, ⟨.optr (.arr 64 u8), ⟨2, .arr 64 u8, .here⟩⟩), (6, ⟨.optr (.arr 64 u8), ⟨3, .arr 64 u8, .here⟩⟩), (13, ⟨i64, (i : Int)⟩)], [(1, some (.box dg (List.replicate 32 (0 : UInt8)))), (2, some (.box (.arr 64 u8) (mixX base 0x36 i))), (3, some (.box (.arr 64 u8) (mixX base 0x5c i)))], 4⟩) (fun i => i ≤ 64) (fun i => 64 - i) 0 (by omega) ⟨⟨rfl, rfl, rfl, rfl, rfl, trivial⟩, ⟨rfl, boxEq hbase, boxEq hbase, trivial⟩, rfl, rfl⟩ ?_
  intro i hi
  (repeat (first | refine AWP.seq ?_ | refine AWP.skip ?_ | refine AWP.label ?_ | refine AWP.exit ?_ | refine AWP.block ?_ | refine AWP.region hX kH_ok rfl trivial ?_ | refine AWP.region hX kH_ok rfl id ?_ | refine AWP.region hX kH_ok rfl ⟨id, id⟩ ?_))
  refine AWP.cond rfl (fun hb => ?_) (fun hb => ?_)
  · simp at hb
    (repeat (first | refine AWP.seq ?_ | refine AWP.skip ?_ | refine AWP.label ?_ | refine AWP.exit ?_ | refine AWP.block ?_ | refine AWP.region hX kH_ok rfl trivial ?_ | refine AWP.region hX kH_ok rfl id ?_ | refine AWP.region hX kH_ok rfl ⟨id, id⟩ ?_))
    (repeat (first | refine AWP.seq ?_ | refine AWP.skip ?_ | refine AWP.block ?_ | refine AWP.exit ?_)); refine AWP.region hX kH_ok rfl ?_ ?_
    · (simp only [allP, inR64]; (and_intros <;> first | omega | (simp; done) | (simp; omega)))
    (repeat (first | refine AWP.seq ?_ | refine AWP.skip ?_ | refine AWP.block ?_ | refine AWP.exit ?_)); refine AWP.region hX kH_ok rfl ?_ ?_
    · (simp only [allP, inR64]; (and_intros <;> first | omega | (simp; done) | (simp; omega)))
    (repeat (first | refine AWP.seq ?_ | refine AWP.skip ?_ | refine AWP.block ?_ | refine AWP.exit ?_)); refine AWP.region hX kH_ok rfl ?_ ?_
    · exact inR_succ (by omega)
    refine ⟨i + 1, by omega, by omega, ⟨rfl, rfl, rfl, rfl, vSucc _, trivial⟩, ⟨rfl, boxEq ?_, boxEq ?_, trivial⟩, rfl, rfl⟩
    · exact mixX_set base 0x36 i (by omega)
    · exact mixX_set base 0x5c i (by omega)
  · simp at hb
    have : i = 64 := by omega
    subst this
    have e1 := mixX_all key 0x36 hkl
    have e2 := mixX_all key 0x5c hkl
    have e3 : (keyBlock key 0x36).length = 64 := by rw [← e1, mixX_len]; simp [hkl]
    have e4 : (keyBlock key 0x5c).length = 64 := by rw [← e2, mixX_len]; simp [hkl]
    rw [hbase] at e1 e2
    rw [e1, e2]
    (repeat (first | refine AWP.seq ?_ | refine AWP.skip ?_ | refine AWP.label ?_ | refine AWP.exit ?_ | refine AWP.block ?_ | refine AWP.region hX kH_ok rfl trivial ?_ | refine AWP.region hX kH_ok rfl id ?_ | refine AWP.region hX kH_ok rfl ⟨id, id⟩ ?_))
    refine AWP.frzB hX 5 ?_
    (repeat (first | refine AWP.seq ?_ | refine AWP.skip ?_ | refine AWP.block ?_ | refine AWP.exit ?_)); refine AWP.region hX kH_ok rfl ?_ ?_
    · show List.length (List.flatten [keyBlock key 0x36, l]) ≤ 2000000
      simp [e3]; omega
    refine AWP.frzB hX 6 ?_
    refine AWP.frzB hX 8 ?_
    (repeat (first | refine AWP.seq ?_ | refine AWP.skip ?_ | refine AWP.block ?_ | refine AWP.exit ?_)); refine AWP.draw dM hX kH_ok 4 (by kernel_rfl) rfl rfl ?_ ?_ ?_
    · show List.length (List.flatten [keyBlock key 0x5c, sha (List.flatten [keyBlock key 0x36, l])]) ≤ 2000000
      simp [e4, sha_length]
    · trivial
    refine AWP.ret ⟨.inr rfl, done1 rfl trivial rfl rfl ?_⟩
    show sha (List.flatten [keyBlock key 0x5c, sha (List.flatten [keyBlock key 0x36, l])]) = hmac key l
    simp [hmac]
end Go.Proofs.YtbbeldmcdjjnbaaDoor
