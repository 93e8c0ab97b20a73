/-
  Texts of this claim, joined: what the statement's proof uses.
-/
import Derived.Test.YtpeaigpfddalcaaGreatDoorYC
namespace Go.Proofs.YtpeaigpfddalcaaGreatDoor
open Go Go.RowKit Go.Lib
set_option linter.unusedSimpArgs false
set_option linter.unusedVariables false
section
variable {P : Program} {w : World} {O : Nat -> Prop} {β : Nat -> Value}
theorem zg0 (s : List UInt8) : strCells ⟨s.toArray⟩ = byteCells s := by
  simp [strCells, byteCells]
theorem zkq {t u e : TypeId} {i : TypeInfo} (ht : P.underlying t = some (.slice e)) (hu : P.underlying u = some .string) (hi : P.info? e = some i) (hz : i.zero = some (.int .u8 0)) (hsize : i.size = 1) (hby : i.bytes = 1) (ty : TypeId) {B : Nat} (hB : B ≤ w.heap.size) {bv : Value} {xs : List UInt8} (hown : OwnRep w O β B bv (.buf e (.int .u8) xs))
    (hOb : ∀ g, zag bv = some g -> O g) (s : List UInt8) (hlen : xs.length + s.length ≤ 1000000000) :
    ∃ v' w', (Builtin.append_ #[t, u] ty #[bv, .string ⟨s.toArray⟩]).run P w = .ok v' w' ∧ w.grownBy w' (zag bv) ∧ (∀ g, zag v' = some g -> zag bv = some g ∨ w.heap.size ≤ g) ∧
      ∀ O2, (∀ g, g < w.heap.size -> O2 g -> O g) -> OwnRep w' O2 β B v' (.buf e (.int .u8) ((xs ++ s : List UInt8))) := by
  obtain ⟨cs, h1, h2, h3⟩ := hown
  have hss : (⟨s.toArray⟩ : ByteArray).size = s.length := by simp [ByteArray.size]
  have hob := zdy h2
  have h2 : w.ownsRow B e 1 bv xs.length cs := h2
  obtain ⟨v', w', k1, k2, k3, k4⟩ := run_append_own_string (P := P) w B t u ty e i ht hu hi hz hsize hby bv xs.length cs h2 ⟨s.toArray⟩ (by rw [hss]; simp only [Go.maxLen]; omega) (by rw [hss]; omega) hB
  rw [hss] at k2
  refine ⟨v', w', k1, hob ▸ k3, ?_, fun O2 hO2 => ⟨cs ++ byteCells s, ?_, by rw [show List.length (xs ++ s : List UInt8) = xs.length + s.length from List.length_append, <- zg0]; exact k2, h3⟩⟩
  · intro g hg
    rcases h2.2 with ⟨rfl, hn⟩ | ⟨g', cap, cur, rfl, hbg, hg', hnc, hcm, hcs, htake⟩
    · by_cases hm : (⟨s.toArray⟩ : ByteArray).size = 0
      · have := k4.2 ⟨rfl, hm⟩
        rw [this] at hg
        cases hg
      · have hr2 := run_append_nil_string (P := P) w t u ty e i _ ht hu hi hz ⟨s.toArray⟩ (by omega) (by omega) (by rw [hby]; omega)
        rw [hr2] at k1
        cases k1
        cases hg
        exact .inr (Nat.le_refl _)
    · by_cases hroom : xs.length + (⟨s.toArray⟩ : ByteArray).size ≤ cap
      · have hcs' : cur.size = cap := by simpa using hcs
        have hr2 := run_append_room_string (P := P) w t u ty e i ht hu hi hsize g' xs.length cap cur hg' ⟨s.toArray⟩ hroom (by omega)
        rw [hr2] at k1
        cases k1
        exact .inl hg
      · have holds : ∀ j u, cs[j]? = some u -> w.cell? ((⟨g', 0, none⟩ : Addr).add j) = some u := h2.cells (g := g') rfl
        have hr2 := run_append_grow_string (P := P) w t u ty e i (.int .u8 0) ht hu hi hz ⟨g', 0, none⟩ xs.length cap cs (by rw [h2.1, hsize]) holds ⟨s.toArray⟩ (by omega) (by omega) (by rw [hby]; exact growslice_fits (by omega) (by omega))
        rw [hr2] at k1
        cases k1
        cases hg
        exact .inr (Nat.le_refl _)
  · have hk : Keeps w w' O O2 := ⟨k3.size, fun g hgl hgo => k3.block g hgl fun e => hgo (hOb g (by rw [<- hob]; exact e.symm)), hO2⟩
    exact (h1.append (zfE s)).mono fun x _ c => RepC.keep hk _ _ _
end
section
variable {P : Program} {K : Kn} {w0 : World} {X : Ownr} {n : Nat} {σ : AS} {Q : Exit -> AS -> Prop} {ops : Array Oper}
theorem AL.appStr {t u e : TypeId} {ti : TypeInfo} (ht : P.underlying t = some (.slice e)) (hu : P.underlying u = some .string) (hi : P.info? e = some ti) (hz : ti.zero = some (.int .u8 0)) (hsize : ti.size = 1) (hby : ti.bytes = 1) {o : Oper} {rest : List Oper} {sl x : Operand} (ho : o.op = .call ⟨.builtin .append, #[sl, x], #[t, u]⟩) (hgd : o.guard = none) {d : Nat} (hd : o.dst = some d) (hdn : Nat.blt d n = true)
    {F : Frame} {E : Owns} {nx i : Nat} (hs : evO F sl = ⟨.obuf (.int .u8), i⟩) {xs : List UInt8} (hb : Owns.get E i = some (.buf e (.int .u8) xs)) {s : List UInt8} (hx : evO F x = ⟨.str, s⟩) (hlen : xs.length + s.length ≤ 1000000000)
    (h : AL P w0 X n ops rest ⟨(d, ⟨.obuf (.int .u8), i⟩) :: Frame.kill i F, (i, some (.buf e (.int .u8) ((xs ++ s : List UInt8)))) :: Owns.kill i E, nx⟩ Q) : AL P w0 X n ops (o :: rest) ⟨F, E, nx⟩ Q := by
  refine AL.hand hgd (fun c e => by rw [ho] at e; cases e) fun β a w hsim => ?_
  have hlt : d < n := by simpa using hdn
  have eS : a.eval sl = β i := by
    have h1 := hsim.ops sl
    rw [show evO (AS.mk F E nx).F sl = _ from hs] at h1
    exact h1
  have eX : a.eval x = .string ⟨s.toArray⟩ := by
    have h1 := hsim.ops x
    rw [show evO (AS.mk F E nx).F x = _ from hx] at h1
    exact List.singleton_inj.1 h1.1
  obtain ⟨v', w', k1, k2, k3, k4⟩ := zkq (P := P) ht hu hi hz hsize hby o.type (Nat.zero_le _) (hsim.own i _ hb) (fun g hg => .inr ⟨i, _, hb, hg⟩) s hlen
  obtain ⟨β', hs'⟩ := hsim.redo hb rfl k2 (bv := v') k3 (t := .int .u8) (o' := .buf e (.int .u8) ((xs ++ s : List UInt8))) (fun O _ hO => k4 O hO) hlt
  refine zbq (u := v') (w' := w') ?_ (by rw [hd]; exact ⟨_, β', hs', h⟩)
  unfold execOp
  simp only [ho, resolve, invoke, builtin, Sem.run_bind, Sem.run_pure, Result.andThen_ok, List.map_toArray, List.map_cons, List.map_nil, eS, eX, k1]
theorem StepA.step {o o' : Oper} {N : AS -> Prop} (heq : OpEq P o o') (hX : X.Ok w0) (hK : KnOk P X.G K) {r : List Prop × AS} (hs : zjB K n ops o' σ = some r) (hp : allP r.1) (h : N r.2) (hgd : o.guard = none := by rfl) : StepA P w0 X n ops o σ N Q := by
  refine StepA.hand hgd fun β a w hsim => heq.wp ?_
  have h1 := ze8 (ops := ops) (N := fun a' w' => ∃ σ' β', Sim w0 X n σ' β' a' w' ∧ N σ') (R := fun e a' w' => e ≠ .outgrown ∧ ∃ σ' β', Sim w0 X n σ' β' a' w' ∧ Q e σ') hK hX hsim hs hp fun β' a' w' h2 => ⟨r.2, β', h2, h⟩
  have hg' : o'.guard = none := by rw [<- heq.guard]; exact hgd
  simp only [Region.wanted, hg', if_true] at h1
  rcases h1 with h1 | ⟨_, h1⟩
  · exact h1
  · obtain ⟨_, _, h2, _⟩ := h1
    exact absurd rfl h2
end
end Go.Proofs.YtpeaigpfddalcaaGreatDoor
namespace Go.Proofs.YtpeaigpfddalcaaGreatDoor
open Go Go.RowKit
set_option linter.unusedSimpArgs false
set_option linter.unusedVariables false
set_option maxRecDepth 100000
theorem u8isS : (Tryz.prog.info? 5).isSome = true := by kernel_rfl
noncomputable def u8i : TypeInfo := (Tryz.prog.info? 5).get u8isS
theorem zpH : Tryz.prog.info? 5 = some u8i := (Option.some_get _).symm
theorem zpF : u8i.zero = some (.int .u8 0) := by kernel_rfl
theorem zpG : u8i.size = 1 := by kernel_rfl
theorem zmf : u8i.bytes = 1 := by kernel_rfl
theorem eqB1 (o : Oper) (x : Operand) (h : o.op = .fieldAddr 105 x 1) : OpEq Tryz.prog o { o with op := .fieldAddr 133 x 1 } := by
  refine ⟨rfl, rfl, rfl, fun ev w => ?_⟩
  unfold execOp
  simp only [h]
  cases ev x <;> simp [go_sem]
@[reducible] def cWSP : HCtr := hBl prT [107] [.str] .unit (fun x xs => [List.length x.2.1 + List.length xs.1 ≤ 1000000000]) fun x xs => .ok ((), (true, ((x.2.1 ++ xs.1 : List UInt8), x.2.2)))
def hCCP : List (FuncId × HCtr) := [(114, cCC prT [107])]
theorem tyOkP : tyOk prT [107] := fun t h => by
  rw [List.mem_singleton] at h
  subst h
  exact ⟨by first | exact .inl rfl | exact .inr rfl, fun x => rfl⟩
theorem znF : HsOk Tryz.prog gmH hCCP := .cons (zfN prT rfl [107] tyOkP) .nil
theorem zhe : zaA Tryz.prog gmH 66 cWSP := by
  refine zfL (K := gmK) zaj Tryz.func66 rfl rfl (zb8 rfl) Tryz.call66 rfl (fun tmps w => ⟨_, by simp [results, Tryz.f66, go_sem]; rfl⟩) rfl (Nat.le_of_ble_eq_true rfl) (zdb prT [107]) ?_
  rintro w0 ⟨G, O, K, fix, D, ρ, B⟩ ty hX hG hK hρ hD hinv ⟨b, bf, r, ⟨⟩⟩ ⟨(u : List UInt8), ⟨⟩⟩ hp
  obtain rfl : G = gmH := hG
  obtain rfl : K = 1 := hK
  obtain rfl : ρ = none := hρ
  obtain rfl : D = [] := hD
  have hI := fun w R hR hw => (⟨zaD (ty := ty) hX rfl hinv.1 (ty' := ty) w R hR hw, hinv.2⟩ : bInv prT [107] w R ty)
  have hp : List.length bf + u.length ≤ 1000000000 := hp
  have key : ∀ b', AWP Tryz.prog w0 { G := gmH, X := O, K := 1, fix := fix, D := [], ρ := none, B := B } Tryz.f66.ntmps (Tryz.f66.body.getD .skip) ⟨[(0, ⟨.hptr, ((0 : Nat), (0 : Nat))⟩), (1, ⟨.str, u⟩)], [(0, some (.hbox ty (adV 0 b' :: ⟨.obuf u8, (1 : Nat)⟩ :: [⟨.slice nd, r⟩]))), (1, some (.buf 5 u8 bf))], 2⟩ (fun e σ => zoi cWSP ty e σ (.ok ((), (true, ((bf ++ u : List UInt8), r, ⟨⟩))))) := by
    intro b'
    refine zae ?_
    (repeat (first | refine zae ?_ | refine zac ?_ | refine zab ?_ | refine zad ?_)); refine zaa hX zaj rfl ?_ ?_
    · trivial
    refine AWP.via (σ' := ⟨[(0, ⟨.hptr, ((0 : Nat), (0 : Nat))⟩), (1, ⟨.str, u⟩), (5, ⟨.lit, .nilIface⟩)], [(0, some (.hbox ty (⟨.hptr, ((0 : Nat), (0 : Nat))⟩ :: ⟨.obuf u8, (1 : Nat)⟩ :: [⟨.slice nd, r⟩]))), (1, some (.buf 5 u8 bf))], 2⟩) ?_ ?_
    · cases b' with
      | true =>
        (repeat (first | refine zae ?_ | refine zac ?_ | refine zab ?_ | refine zad ?_)); refine zah ?_
        refine AL.own 1 hX zaj znF rfl trivial rfl rfl trivial hI ?_
        exact AL.nil ⟨⟨rfl, rfl, rfl, trivial⟩, ⟨rfl, rfl, trivial⟩, rfl, rfl⟩
      | false =>
        (repeat (first | refine zae ?_ | refine zac ?_ | refine zab ?_ | refine zad ?_)); refine zah ?_
        refine AL.own 1 hX zaj znF rfl trivial rfl rfl trivial hI ?_
        exact AL.nil ⟨⟨rfl, rfl, rfl, trivial⟩, ⟨rfl, rfl, trivial⟩, rfl, rfl⟩
    (repeat (first | refine zae ?_ | refine zac ?_ | refine zab ?_ | refine zad ?_)); refine zah ?_
    refine AL.take 3 hX zaj rfl trivial ?_
    refine AL.step (eqB1 _ _ rfl) hX zaj rfl trivial ?_
    refine AL.take 2 hX zaj rfl trivial ?_
    refine AL.appStr Tryz.underlying103 Tryz.underlying9 zpH zpF zpG zmf rfl rfl rfl rfl rfl rfl rfl hp ?_
    refine AL.take 1 hX zaj rfl trivial ?_
    refine AL.step (eqB1 _ _ rfl) hX zaj rfl trivial ?_
    refine AL.all hX zaj rfl trivial ?_
    (repeat (first | refine zae ?_ | refine zac ?_ | refine zak ?_ | refine zad ?_ | refine zab ?_ | refine zaa hX zaj rfl trivial ?_ | refine zaa hX zaj rfl id ?_ | refine zaa hX zaj rfl ⟨id, id⟩ ?_))
    exact AWP.ret ⟨.inr rfl, _, rfl, u8, 1, _, rfl, rfl, rfl⟩
  exact key b
@[reducible] def cWSB : HCtr := hBl .unit [105] [.str] .unit (fun x xs => [List.length x.2.1 + List.length xs.1 ≤ 1000000000]) fun x xs => .ok ((), (true, ((x.2.1 ++ xs.1 : List UInt8), x.2.2)))
def hCCB : List (FuncId × HCtr) := [(114, cCC .unit [105])]
theorem tyOkB : tyOk .unit [105] := fun t h => by
  rw [List.mem_singleton] at h
  subst h
  exact ⟨by first | exact .inl rfl | exact .inr rfl, fun x => rfl⟩
theorem znG : HsOk Tryz.prog gmH hCCB := .cons (zfN .unit rfl [105] tyOkB) .nil
theorem zlk : zaA Tryz.prog gmH 66 cWSB := by
  refine zfL (K := gmK) zaj Tryz.func66 rfl rfl (zb8 rfl) Tryz.call66 rfl (fun tmps w => ⟨_, by simp [results, Tryz.f66, go_sem]; rfl⟩) rfl (Nat.le_of_ble_eq_true rfl) (zdb .unit [105]) ?_
  rintro w0 ⟨G, O, K, fix, D, ρ, B⟩ ty hX hG hK hρ hD hinv ⟨b, bf, ⟨⟩⟩ ⟨(u : List UInt8), ⟨⟩⟩ hp
  obtain rfl : G = gmH := hG
  obtain rfl : K = 1 := hK
  obtain rfl : ρ = none := hρ
  obtain rfl : D = [] := hD
  have hI := fun w R hR hw => (⟨zaD (ty := ty) hX rfl hinv.1 (ty' := ty) w R hR hw, hinv.2⟩ : bInv .unit [105] w R ty)
  have hp : List.length bf + u.length ≤ 1000000000 := hp
  have key : ∀ b', AWP Tryz.prog w0 { G := gmH, X := O, K := 1, fix := fix, D := [], ρ := none, B := B } Tryz.f66.ntmps (Tryz.f66.body.getD .skip) ⟨[(0, ⟨.hptr, ((0 : Nat), (0 : Nat))⟩), (1, ⟨.str, u⟩)], [(0, some (.hbox ty (adV 0 b' :: ⟨.obuf u8, (1 : Nat)⟩ :: []))), (1, some (.buf 5 u8 bf))], 2⟩ (fun e σ => zoi cWSB ty e σ (.ok ((), (true, ((bf ++ u : List UInt8), ⟨⟩))))) := by
    intro b'
    refine zae ?_
    (repeat (first | refine zae ?_ | refine zac ?_ | refine zab ?_ | refine zad ?_)); refine zaa hX zaj rfl ?_ ?_
    · trivial
    refine AWP.via (σ' := ⟨[(0, ⟨.hptr, ((0 : Nat), (0 : Nat))⟩), (1, ⟨.str, u⟩), (5, ⟨.lit, .nilIface⟩)], [(0, some (.hbox ty (⟨.hptr, ((0 : Nat), (0 : Nat))⟩ :: ⟨.obuf u8, (1 : Nat)⟩ :: []))), (1, some (.buf 5 u8 bf))], 2⟩) ?_ ?_
    · cases b' with
      | true =>
        (repeat (first | refine zae ?_ | refine zac ?_ | refine zab ?_ | refine zad ?_)); refine zah ?_
        refine AL.own 1 hX zaj znG rfl trivial rfl rfl trivial hI ?_
        exact AL.nil ⟨⟨rfl, rfl, rfl, trivial⟩, ⟨rfl, rfl, trivial⟩, rfl, rfl⟩
      | false =>
        (repeat (first | refine zae ?_ | refine zac ?_ | refine zab ?_ | refine zad ?_)); refine zah ?_
        refine AL.own 1 hX zaj znG rfl trivial rfl rfl trivial hI ?_
        exact AL.nil ⟨⟨rfl, rfl, rfl, trivial⟩, ⟨rfl, rfl, trivial⟩, rfl, rfl⟩
    (repeat (first | refine zae ?_ | refine zac ?_ | refine zab ?_ | refine zad ?_)); refine zah ?_
    refine AL.take 3 hX zaj rfl trivial ?_
    refine AL.step (eqB1 _ _ rfl) hX zaj rfl trivial ?_
    refine AL.take 2 hX zaj rfl trivial ?_
    refine AL.appStr Tryz.underlying103 Tryz.underlying9 zpH zpF zpG zmf rfl rfl rfl rfl rfl rfl rfl hp ?_
    refine AL.take 1 hX zaj rfl trivial ?_
    refine AL.step (eqB1 _ _ rfl) hX zaj rfl trivial ?_
    refine AL.all hX zaj rfl trivial ?_
    (repeat (first | refine zae ?_ | refine zac ?_ | refine zak ?_ | refine zad ?_ | refine zab ?_ | refine zaa hX zaj rfl trivial ?_ | refine zaa hX zaj rfl id ?_ | refine zaa hX zaj rfl ⟨id, id⟩ ?_))
    exact AWP.ret ⟨.inr rfl, _, rfl, u8, 1, _, rfl, rfl, rfl⟩
  exact key b
end Go.Proofs.YtpeaigpfddalcaaGreatDoor
namespace Go.Proofs.YtpeaigpfddalcaaGreatDoor
open Go Go.RowKit
set_option linter.unusedSimpArgs false
set_option linter.unusedVariables false
set_option maxRecDepth 100000
@[reducible] def zl7 (T : Ty) (tys : List TypeId) : HCtr := hBl T tys [] i64 (fun _ _ => []) fun x _ => .ok (((x.2.1.length : Nat) : Int), x)
theorem zqG : zaA Tryz.prog gmH 61 (zl7 prT [107]) := by
  refine zar (K := gmK) zaj Tryz.func61 rfl rfl (zb8 rfl) Tryz.call61 rfl (Nat.le_of_ble_eq_true rfl) (zdb prT [107]) ?_
  rintro w0 ⟨G, O, K, fix, D, ρ, B⟩ ty hX hG hK hρ hD hinv ⟨b, bf, r, ⟨⟩⟩ ⟨⟩ hp
  obtain rfl : G = gmH := hG
  obtain rfl : K = 1 := hK
  obtain rfl : ρ = none := hρ
  obtain rfl : D = [] := hD
  have key : ∀ b', AWP Tryz.prog w0 { G := gmH, X := O, K := 1, fix := fix, D := [], ρ := none, B := B } Tryz.f61.ntmps (Tryz.f61.body.getD .skip) ⟨[(0, ⟨.hptr, ((0 : Nat), (0 : Nat))⟩)], [(0, some (.hbox ty (adV 0 b' :: ⟨.obuf u8, (1 : Nat)⟩ :: [⟨.slice nd, r⟩]))), (1, some (.buf 5 u8 bf))], 2⟩ (fun e σ => zoj gmT Tryz.f61.results.toList (zl7 prT [107]) ty e σ (.ok (((bf.length : Nat) : Int), (b', bf, r, ())))) := by
    intro b'
    refine zae ?_
    (repeat (first | refine zae ?_ | refine zac ?_ | refine zab ?_ | refine zad ?_)); refine zaa hX zaj rfl ?_ ?_
    · trivial
    (repeat (first | refine zae ?_ | refine zac ?_ | refine zab ?_ | refine zad ?_)); refine zah ?_
    refine AL.take 2 hX zaj rfl trivial ?_
    refine AL.step (eqB1 _ _ rfl) hX zaj rfl trivial ?_
    refine AL.all hX zaj rfl trivial ?_
    cases b' with
    | true => exact AWP.ret ⟨.inr rfl, ⟨_, rfl, u8, 1, _, rfl, rfl, rfl⟩, zay rfl trivial rfl rfl rfl⟩
    | false => exact AWP.ret ⟨.inr rfl, ⟨_, rfl, u8, 1, _, rfl, rfl, rfl⟩, zay rfl trivial rfl rfl rfl⟩
  exact key b
theorem zqH : zaA Tryz.prog gmH 61 (zl7 .unit [105]) := by
  refine zar (K := gmK) zaj Tryz.func61 rfl rfl (zb8 rfl) Tryz.call61 rfl (Nat.le_of_ble_eq_true rfl) (zdb .unit [105]) ?_
  rintro w0 ⟨G, O, K, fix, D, ρ, B⟩ ty hX hG hK hρ hD hinv ⟨b, bf, ⟨⟩⟩ ⟨⟩ hp
  obtain rfl : G = gmH := hG
  obtain rfl : K = 1 := hK
  obtain rfl : ρ = none := hρ
  obtain rfl : D = [] := hD
  have key : ∀ b', AWP Tryz.prog w0 { G := gmH, X := O, K := 1, fix := fix, D := [], ρ := none, B := B } Tryz.f61.ntmps (Tryz.f61.body.getD .skip) ⟨[(0, ⟨.hptr, ((0 : Nat), (0 : Nat))⟩)], [(0, some (.hbox ty (adV 0 b' :: ⟨.obuf u8, (1 : Nat)⟩ :: []))), (1, some (.buf 5 u8 bf))], 2⟩ (fun e σ => zoj gmT Tryz.f61.results.toList (zl7 .unit [105]) ty e σ (.ok (((bf.length : Nat) : Int), (b', bf, ())))) := by
    intro b'
    refine zae ?_
    (repeat (first | refine zae ?_ | refine zac ?_ | refine zab ?_ | refine zad ?_)); refine zaa hX zaj rfl ?_ ?_
    · trivial
    (repeat (first | refine zae ?_ | refine zac ?_ | refine zab ?_ | refine zad ?_)); refine zah ?_
    refine AL.take 2 hX zaj rfl trivial ?_
    refine AL.step (eqB1 _ _ rfl) hX zaj rfl trivial ?_
    refine AL.all hX zaj rfl trivial ?_
    cases b' with
    | true => exact AWP.ret ⟨.inr rfl, ⟨_, rfl, u8, 1, _, rfl, rfl, rfl⟩, zay rfl trivial rfl rfl rfl⟩
    | false => exact AWP.ret ⟨.inr rfl, ⟨_, rfl, u8, 1, _, rfl, rfl, rfl⟩, zay rfl trivial rfl rfl rfl⟩
  exact key b
section
open Go.Shelf
set_option linter.unusedSimpArgs false
set_option linter.unusedVariables false
set_option maxHeartbeats 1000000 in
theorem zmo {P : Program} {ρ : Ren} (L : Lays.n169 P ρ) (X : Builder.Extra P ρ) (b g cap : Nat) (cs cur : Array Value) (ty : TypeId) (l : List UInt8) (w : World) (hbk : w.heap[b]? = some (.cells cs ty (0, 0))) (h1 : cs[1]? = some (.slice (some ⟨g, 0, none⟩) l.length cap)) (hg : w.heap[g]? = some (.cells cur (ρ.t 5) (0, 0))) (hnc : l.length ≤ cap) (hcm : cap ≤ maxLen) (hcs : cur.size = cap) (htake : cur.toList.take l.length = Lib.byteCells l) (h0 : l ≠ []) :
    Calls P (ρ.f 169) #[.pointer (some ⟨b, 0, none⟩)] w fun e w' => e = .returned (.string ⟨l.toArray⟩) ∧ w' = w.drew.freeze ⟨g, 0, none⟩ l.length := by
  have hl0 : l.length ≠ 0 := by simpa using h0
  have c1 : w.drew.cell? ⟨b, 1, none⟩ = some (.slice (some ⟨g, 0, none⟩) l.length cap) := by
    have : w.drew.heap[b]? = some (.cells cs ty (0, 0)) := hbk
    rw [Lib.cell_of_heap this]; exact h1
  have hSD : (Builtin.unsafeSliceData_ #[(ρ.t 37)] (ρ.t 127) #[.slice (some ⟨g, 0, none⟩) l.length cap]).run P w.drew = .ok (.pointer (some ⟨g, 0, none⟩)) w.drew :=
    Lib.run_unsafeSliceData_row _ _ _ _ _ _ (by omega)
  have hUS : (Builtin.unsafeString_ #[(ρ.t 127), (ρ.t 3)] (ρ.t 9) #[.pointer (some ⟨g, 0, none⟩), .int .i64 l.length]).run P w.drew = .ok (.string ⟨l.toArray⟩) (w.drew.freeze ⟨g, 0, none⟩ l.length) := by
    refine Lib.run_unsafeString_row w.drew (ρ.t 127) (ρ.t 3) (ρ.t 9) (ρ.t 5) L.t127 X.cellsByte g cur.size (by have hg' : w.drew.heap[g]? = some (.cells cur (ρ.t 5) (0, 0)) := hg; simp [World.shape?, hg']) l h0 (by omega) (by unfold maxLen at hcm; omega) ?_
    intro j x hx
    have hg' : w.drew.heap[g]? = some (.cells cur (ρ.t 5) (0, 0)) := hg
    rw [show ((⟨g, 0, none⟩ : Addr).add j) = ⟨g, j, none⟩ from by simp [Addr.add_lit], Lib.cell_of_heap hg']
    have h2 : (cur.toList.take l.length)[j]? = some (.int .u8 x.toNat) := by rw [htake]; simp [Lib.byteCells, hx]
    rw [List.getElem?_take] at h2
    split at h2
    · simpa using h2
    · cases h2
  have mixed := L.mixed
  have t72 := L.t72; have a72 := L.a72; have z72 := L.z72; have v72 := L.v72; have u72 := run_underlying L.t72
  have t70 := L.t70; have a70 := L.a70; have z70 := L.z70; have v70 := L.v70; have u70 := run_underlying L.t70
  have t37 := L.t37; have a37 := L.a37; have z37 := L.z37; have v37 := L.v37; have u37 := run_underlying L.t37
  have t127 := L.t127; have a127 := L.a127; have z127 := L.z127; have v127 := L.v127; have u127 := run_underlying L.t127
  have t3 := L.t3; have a3 := L.a3; have z3 := L.z3; have v3 := L.v3; have u3 := run_underlying L.t3
  have t9 := L.t9; have a9 := L.a9; have z9 := L.z9; have v9 := L.v9; have u9 := run_underlying L.t9
  have t5 := X.t5; have a5 := X.a5; have z5 := X.z5; have v5 := X.v5; have u5 := run_underlying X.t5
  go_enter L.f169, Body.n169_ntmps ρ
  go_wp2
  go_region_o
  all_goals (go_wp2; go_ret; exact ⟨rfl, rfl⟩)
end
theorem zji (w : World) (g n k : Nat) (hk : k ≠ g) : (w.freeze ⟨g, 0, none⟩ n).heap[k]? = w.heap[k]? := by
  unfold World.freeze
  split
  · rfl
  · simp only [Array.getElem?_modify]
    rw [if_neg (fun e => hk e.symm)]
theorem zj9 {R : Nat -> Prop} (w : World) (g n : Nat) (hR : R g) : Kept R w (w.drew.freeze ⟨g, 0, none⟩ n) := by
  refine ⟨?_, ?_, ?_, ?_, fun k _ hn => zji w.drew g n k fun e => hn (e ▸ hR)⟩
  · unfold World.freeze; split <;> rfl
  · unfold World.freeze; split <;> rfl
  · unfold World.freeze; split <;> rfl
  · unfold World.freeze
    split
    · exact Nat.le_refl _
    · show w.heap.size ≤ (Array.modify _ _ _).size
      rw [Array.size_modify]
      exact Nat.le_refl _
@[reducible] def cStrB (T : Ty) (tys : List TypeId) : HCtr := hBl T tys [] .str (fun x _ => [x.2.1 ≠ []]) fun x _ => .ok (x.2.1, x)
theorem ziD (T : Ty) (hT : T.leafD = true) (tys : List TypeId) : ze9 Tryz.prog gmH 62 (cStrB T tys) (fun x _ => .ok x.2.1) := by
  refine ⟨Tryz.call62, zb8 hT, fun w O g cs ty x xs vs b hO hgb hg hx hbuf hrep hpre hinv hG => ?_⟩
  have hvs : vs = [] := hrep
  subst hvs
  have h0 : x.2.1 ≠ [] := hpre
  rw [zm9] at hx
  obtain ⟨u, r, rfl, hu1, hu, hr⟩ := hx
  obtain ⟨v, r, rfl, hv1, hv, hr⟩ := hr
  have hv : v = b := hv
  subst hv
  obtain ⟨cells, k1, k2, k3⟩ := hbuf
  have k1 := zfh k1
  subst k1
  have hl0 : x.2.1.length ≠ 0 := by simpa using h0
  rcases k2.2 with ⟨_, hz⟩ | ⟨g', cap, cur, rfl, _, hg', hnc, hcm, hcs, htake⟩
  · exact absurd hz hl0
  rw [show Ty.size u8 = 1 from rfl, Nat.mul_one] at hcs htake
  refine (zmo Tryz.lays169 Tryz.Builder_Extra_169 g g' cap _ cur ty x.2.1 w hg rfl hg' hnc hcm hcs (by simpa [Lib.byteCells] using htake) h0).mono ?_
  rintro e w' ⟨rfl, rfl⟩
  have hnc' : List.length x.2.1 ≤ cap := hnc
  exact ⟨zj9 w g' _ (.inr rfl), _, rfl, .inr fun β => ⟨rfl, by unfold maxLen at *; omega⟩⟩
end Go.Proofs.YtpeaigpfddalcaaGreatDoor
namespace Go.Proofs.YtpeaigpfddalcaaGreatDoor
open Go Go.RowKit
set_option linter.unusedSimpArgs false
set_option linter.unusedVariables false
attribute [local go_sem] Oper.semAt_some
set_option maxRecDepth 100000
theorem zmI (e : Int × Int) (w : World) : (Instr.typeAssert (.iface 133 (.agg #[.int .i64 e.1, .int .i64 e.2])) 20 133 true).run Tryz.prog w = .ok (.tuple #[.agg #[.int .i64 e.1, .int .i64 e.2], .bool true]) w := by kernel_rfl
set_option maxHeartbeats 2000000 in
theorem zmK (g2 g3 : Nat) (w : World) : CallsDIn Fence.wide 0 Tryz.prog 78 #[.pointer (some ⟨g2, 0, none⟩), .pointer (some ⟨g3, 0, none⟩)] .returning w fun e u' w' =>
    (∃ v, e = .returned v) ∧ u' = .returning ∧ Below w.heap.size w w' := by
  refine callsDIn_of_wpSIn Tryz.func78 rfl trivial fun c₀ cs hu => ?_
  apply wpSIn_seq
  apply wpSIn_region
  simp [wpOpsSIn, go_sem, recoverD, hu, Tryz.ntmps78, Exit.thenS]
  apply wpSIn_seq
  apply wpSIn_region
  simp [wpOpsSIn, go_sem, Exit.thenS]
  refine wpSIn_cond (t := false) (by simp [Act.eval]) ?_
  simp only [Bool.false_eq_true, if_false]
  refine wpSIn_of_wpIn rfl (wpIn_skip ?_)
  cases c₀
  simp_all [bodyPostS, results, Tryz.f78]
  exact Below.refl _ _
def fixR (g2 g3 g5 : Nat) (i : Nat) : Nat := if i = 0 then g2 else if i = 1 then g3 else g5
def sR1 (x2 x3 : Int) (e : Int × Int) : AS := ⟨[(0, ⟨.optr i64, ⟨0, i64, .here⟩⟩), (1, ⟨.optr i64, ⟨1, i64, .here⟩⟩), (3, ⟨.optr sto, ⟨2, sto, .here⟩⟩)], [(0, some (.box i64 x2)), (1, some (.box i64 x3)), (2, some (.box sto (e.1, e.2, ())))], 3⟩
def sR2 (e : Int × Int) : AS := ⟨[], [(0, some (.box i64 e.1)), (1, some (.box i64 e.2))], 3⟩
noncomputable def zoH : Code := match Tryz.f78.body.getD .skip with
  | .seq _ (.seq _ (.cond _ c _)) => (match c with
    | .seq _ (.seq _ t) => t
    | c => c)
  | c => c
theorem zoG {w1 : World} {X : Ownr} (hX : X.Ok w1) (hG : ∀ w w', X.G w -> Below w.heap.size w w' -> X.G w') (hK : X.K = 3) (x2 x3 : Int) (e : Int × Int) : AWP Tryz.prog w1 X 20 zoH (sR1 x2 x3 e) (fun en σ => en = .normal ∧ Fit σ (sR2 e)) := by
  have kok : KnOk Tryz.prog X.G gmK := ⟨zgH, zgG, CsOk.nil, hG, RsOk.nil⟩
  unfold sR1 sR2
  refine AWP.ordersA dM 6 rfl (by kernel_rfl) ?_
  repeat' (first
    | exact AllN.nil
    | refine AllN.cons ⟨_, rfl, ?_⟩ ?_
    | refine StepA.eval hX kok rfl trivial ?_
    | (refine OrdA.last ?_; exact ⟨rfl, trivial, ⟨rfl, rfl, trivial⟩, rfl, rfl⟩))
set_option maxHeartbeats 600000 in
theorem zoF (g2 g3 : Nat) (e : Int × Int) (x2 x3 : Int) (t2 t3 : TypeId) (w : World) (h2 : w.heap[g2]? = some (.cells #[.int .i64 x2] t2 (0, 0))) (h3 : w.heap[g3]? = some (.cells #[.int .i64 x3] t3 (0, 0))) (hne : g2 ≠ g3) :
    CallsDIn Fence.wide 0 Tryz.prog 78 #[.pointer (some ⟨g2, 0, none⟩), .pointer (some ⟨g3, 0, none⟩)] (.panicking [{ v := pvS e, recovered := false }]) w fun en u' w' =>
    (∃ v, en = .returned v) ∧ u' = .panicking [{ v := pvS e, recovered := true }] ∧ Kept (fun g => g = g2 ∨ g = g3) w w' ∧ ∃ t2 t3, w'.heap[g2]? = some (.cells #[.int .i64 e.1] t2 (0, 0)) ∧ w'.heap[g3]? = some (.cells #[.int .i64 e.2] t3 (0, 0)) := by
  refine callsDIn_of_wpSIn Tryz.func78 rfl trivial fun c₀ cs hu => ?_
  apply wpSIn_seq
  apply wpSIn_region
  simp [wpOpsSIn, go_sem, recoverD, hu, Tryz.ntmps78, Exit.thenS, pvS]
  apply wpSIn_seq
  apply wpSIn_region
  simp [wpOpsSIn, go_sem, Exit.thenS]
  refine wpSIn_cond (t := true) (by simp [Act.eval]) ?_
  simp only [if_true]
  apply wpSIn_seq
  apply wpSIn_region
  simp [wpOpsSIn, go_sem, Exit.thenS, zmI]
  apply wpSIn_seq
  apply wpSIn_seq
  apply wpSIn_region
  simp [wpOpsSIn, go_sem, Exit.thenS]
  refine wpSIn_cond (t := false) (by simp [Act.eval]) ?_
  simp only [Bool.false_eq_true, if_false]
  refine wpSIn_of_wpIn rfl (wpIn_skip ?_)
  simp only [Exit.thenS]
  refine wpSIn_of_wpIn rfl ?_
  have hl2 := (Array.getElem?_eq_some_iff.1 h2).1
  have hl3 := (Array.getElem?_eq_some_iff.1 h3).1
  have hbA : Below w.heap.size w (w.alloc (.cells #[.int .i64 e.1, .int .i64 e.2] 133)) := zaU _ _
  have h5 : (w.alloc (.cells #[.int .i64 e.1, .int .i64 e.2] 133)).heap[w.heap.size]? = some (.cells #[.int .i64 e.1, .int .i64 e.2] 133 (0, 0)) := World.alloc_heap_new _ _
  replace h2 := (hbA.block _ hl2).trans h2
  replace h3 := (hbA.block _ hl3).trans h3
  generalize w.alloc (.cells #[.int .i64 e.1, .int .i64 e.2] 133) = w1 at *
  let X : Ownr := { G := fun _ => True, X := fun _ => False, K := 3, fix := fixR g2 g3 w.heap.size }
  have hR : ∀ g, X.R g -> g = g2 ∨ g = g3 ∨ g = w.heap.size := by
    rintro g (⟨i, hi, rfl⟩ | h)
    rotate_left
    · exact False.elim h
    have hi : i < 3 := hi
    rcases (show i = 0 ∨ i = 1 ∨ i = 2 by omega) with rfl | rfl | rfl
    · exact .inl rfl
    · exact .inr (.inl rfl)
    · exact .inr (.inr rfl)
  have hX : X.Ok w1 := by
    refine ⟨fun g h => h.elim, fun g h => ?_, fun _ _ => trivial⟩
    have := (Array.getElem?_eq_some_iff.1 h5).1
    have := hbA.size
    rcases hR g h with rfl | rfl | rfl <;> omega
  let β : Nat -> Value := fun i => .pointer (some ⟨X.fix i, 0, none⟩)
  have hsim : ∀ a : Act, a.tmps.size = 20 -> a.defers = [] -> a.tmps.getD 0 undef = .pointer (some ⟨g2, 0, none⟩) -> a.tmps.getD 1 undef = .pointer (some ⟨g3, 0, none⟩) -> a.tmps.getD 3 undef = .pointer (some ⟨w.heap.size, 0, none⟩) ->
      Sim w1 X 20 (sR1 x2 x3 e) β a w1 := fun a hsz hdf e0 e1 e3 => by
    refine Sim.boxes (X := X) hsz hdf (fun i _ => rfl) ?_ ?_ ?_ rfl
    · intro i j hi hj hij
      have hi : i < 3 := hi
      have hj : j < 3 := hj
      have hij : fixR g2 g3 w.heap.size i = fixR g2 g3 w.heap.size j := hij
      unfold fixR at hij
      rcases (show i = 0 ∨ i = 1 ∨ i = 2 by omega) with rfl | rfl | rfl <;> rcases (show j = 0 ∨ j = 1 ∨ j = 2 by omega) with rfl | rfl | rfl <;> first | rfl | (exfalso; simp at hij; omega)
    · intro i o h
      rw [zaf] at h
      split at h
      · rename_i hi; subst hi; cases h
        exact ⟨by show 0 < 3; omega, rfl, ⟨g2, [_], _, rfl, Nat.zero_le _, h2, rfl⟩, fun vs e => by cases e⟩
      rw [zaf] at h
      split at h
      · rename_i _ hi; subst hi; cases h
        exact ⟨by show 1 < 3; omega, rfl, ⟨g3, [_], _, rfl, Nat.zero_le _, h3, rfl⟩, fun vs e => by cases e⟩
      rw [zaf] at h
      split at h
      · rename_i _ _ hi; subst hi; cases h
        exact ⟨by show 2 < 3; omega, rfl, ⟨w.heap.size, [.int .i64 e.1, .int .i64 e.2], _, rfl, Nat.zero_le _, h5, [.int .i64 e.1], [.int .i64 e.2], rfl, rfl, [.int .i64 e.2], [], rfl, rfl, rfl⟩, fun vs e => by cases e⟩
      · cases h
    · refine zbo ⟨g2, rfl, e0⟩ (zbo ⟨g3, rfl, e1⟩ (zbo ⟨w.heap.size, rfl, e3⟩ zff))
  refine Go.wpIn_mono (zoG hX (fun _ _ _ _ => trivial) rfl x2 x3 e β _ w1 (hsim _ ?_ ?_ ?_ ?_ ?_)) ?_
  · simp
  · rfl
  · simp [Array.getD_eq_getD_getElem?, Array.getElem?_append]
  · simp [Array.getD_eq_getD_getElem?, Array.getElem?_append]
  · simp [Array.getD_eq_getD_getElem?, Array.getElem?_append]
  · rintro en a' w' ⟨σ', β', h1, rfl, hf⟩
    have h6 := h1.fit hf (Nat.le_refl _)
    have hblk : ∀ i, i < 3 -> zag (β' i) = some (fixR g2 g3 w.heap.size i) := fun i hi => (h6.fix.2 i hi).1
    obtain ⟨k3, c3, y3, q4, _, q5, q6⟩ := h6.own 0 _ rfl
    obtain ⟨k4, c4, y4, q7, _, q8, q9⟩ := h6.own 1 _ rfl
    have e0 := hblk 0 (by omega)
    have e1 := hblk 1 (by omega)
    rw [q4] at e0
    rw [q7] at e1
    have f0 : k3 = g2 := by simpa [zag, fixR] using e0
    have f1 : k4 = g3 := by simpa [zag, fixR] using e1
    subst f0; subst f1
    have q6 : c3 = [.int .i64 e.1] := q6
    have q9 : c4 = [.int .i64 e.2] := q9
    subst q6; subst q9
    refine ⟨h6.df, _, rfl, _, results_none rfl _ _ _, ⟨_, rfl⟩, rfl, ⟨h6.bel.os.trans hbA.os, h6.bel.tape.trans hbA.tape, h6.bel.output.trans hbA.output, Nat.le_trans hbA.size h6.bel.size, fun k hk hn => (h6.bel.block k (Nat.lt_of_lt_of_le hk hbA.size) fun hr => ?_).trans (hbA.block k hk)⟩, ⟨_, q5⟩, ⟨_, q8⟩⟩
    rcases hR k hr with h | h | h
    · exact hn (.inl h)
    · exact hn (.inr h)
    · omega
theorem zaO {W : World} {B : Nat} {v : Value} {t : TypeId} (h : W.heap[B]? = some (.cells #[v] t (0, 0))) : W.cell? ⟨B, 0, none⟩ = some v ∧ W.frozen? ⟨B, 0, none⟩ = false := by
  constructor <;> simp [World.cell?, World.frozen?, h]
theorem zej {W : World} {B : Nat} {v : Value} {t : TypeId} (v' : Value) (h : W.heap[B]? = some (.cells #[v] t (0, 0))) : (W.setCell ⟨B, 0, none⟩ v').heap[B]? = some (.cells #[v'] t (0, 0)) := by
  obtain ⟨hlt, hk⟩ := Array.getElem?_eq_some_iff.1 h
  show (W.heap.modify B _)[B]? = _
  rw [Array.getElem?_eq_getElem (by rw [Array.size_modify]; exact hlt), Array.getElem_modify_self, hk]
  rfl
theorem zc6 {R : Nat -> Prop} (W : World) (g : Nat) (v : Value) (hR : R g) : Kept R W (W.setCell ⟨g, 0, none⟩ v) :=
  ⟨rfl, rfl, rfl, by simp [World.setCell], fun k _ hn => Below.heap_setCell W ⟨g, 0, none⟩ v k fun e => hn (by rw [e]; exact hR)⟩
theorem mkF (fn : Fn) (first cap : Array Value) (w : World) : (Instr.makeFunc fn first cap).run Tryz.prog w = .ok (.func fn first cap) w := rfl
theorem zaM {w : World} (o : Obj) {k : Nat} {x : Obj} (h : w.heap[k]? = some x) : (w.alloc o).heap[k]? = some x := ((zaU w o).block _ (Array.getElem?_eq_some_iff.1 h).1).trans h
theorem zbD {w : World} (o : Obj) {k : Nat} (h : w.heap.size = k) : (w.alloc o).heap[k]? = some o := by subst h; exact World.alloc_heap_new _ _
def rdfn (N : Nat) : Deferred := { target := .fn (.func 78) #[.pointer (some ⟨N, 0, none⟩), .pointer (some ⟨N + 1, 0, none⟩)], args := #[] }
theorem zgh (N : Nat) (w : World) : (invoke (rdfn N).target (rdfn N).args).run Tryz.prog w = .ok (.enter 78 #[.pointer (some ⟨N, 0, none⟩), .pointer (some ⟨N + 1, 0, none⟩)]) w := by
  have eg := Tryz.call78
  simp [invoke, rdfn, go_sem, eg]
def runW (w : World) : World := (w.alloc (.cells #[.int .i64 0] 3)).alloc (.cells #[.int .i64 0] 25)
theorem zmJ (w : World) : (runW w).heap.size = w.heap.size + 2 := by simp [runW]
theorem zlw (w : World) : Below w.heap.size w (runW w) := ((Below.refl _ w).alloc (Nat.le_refl _) _).alloc (by simp) _
def runE : Except (Int × Int) Unit -> Int × Int
  | .ok _ => (0, 0)
  | .error e => e
theorem zmG {tmps : Array Value} {g2 g3 : Nat} {W : World} {x y : Int} {t2 t3 : TypeId} (h2 : tmps.getD 2 undef = .pointer (some ⟨g2, 0, none⟩)) (h3 : tmps.getD 3 undef = .pointer (some ⟨g3, 0, none⟩))
    (c2 : W.heap[g2]? = some (.cells #[.int .i64 x] t2 (0, 0))) (c3 : W.heap[g3]? = some (.cells #[.int .i64 y] t3 (0, 0))) :
    (results Tryz.f43 tmps).run Tryz.prog W = .ok (.tuple #[.int .i64 x, .int .i64 y]) W := by
  have d2 := (zaO c2).1
  have d3 := (zaO c3).1
  rw [Array.getD_eq_getD_getElem?] at h2 h3
  simp [results, Tryz.f43, go_sem, h2, h3, d2, d3]
section
variable {W : World} {tmps : Array Value} {N : Nat} {x y : Int} {t2 t3 : TypeId} {R : Ending -> World -> Prop}
theorem zoK (h2 : tmps.getD 2 undef = .pointer (some ⟨N, 0, none⟩)) (h3 : tmps.getD 3 undef = .pointer (some ⟨N + 1, 0, none⟩)) (c2 : W.heap[N]? = some (.cells #[.int .i64 x] t2 (0, 0))) (c3 : W.heap[N + 1]? = some (.cells #[.int .i64 y] t3 (0, 0)))
    (hr : ∀ w3, Kept (fun g => g = N ∨ g = N + 1) W w3 -> R (.returned (.tuple #[.int .i64 x, .int .i64 y])) w3) : LeavesInM Fence.wide 1 Tryz.prog Tryz.f43 tmps R [rdfn N] .returning W := by
  refine ⟨(by intro h; cases h), .inr ⟨fun _ => Nat.le_refl _, _, _, _, _, rfl, zgh N _, fun _ _ => trivial, ?_⟩⟩
  refine (zmK N (N + 1) _).mono ?_
  rintro e u' w3 ⟨⟨v, rfl⟩, rfl, hb3⟩
  have hl : ∀ g (o : Obj), W.heap[g]? = some o -> w3.heap[g]? = some o := fun g o hg => (hb3.block g (Array.getElem?_eq_some_iff.1 hg).1).trans hg
  exact ⟨_, zmG h2 h3 (hl _ _ c2) (hl _ _ c3), hr _ ⟨hb3.os, hb3.tape, hb3.output, hb3.size, fun k hk _ => hb3.block k hk⟩⟩
theorem zoL {er : Int × Int} (h2 : tmps.getD 2 undef = .pointer (some ⟨N, 0, none⟩)) (h3 : tmps.getD 3 undef = .pointer (some ⟨N + 1, 0, none⟩)) (c2 : W.heap[N]? = some (.cells #[.int .i64 x] t2 (0, 0))) (c3 : W.heap[N + 1]? = some (.cells #[.int .i64 y] t3 (0, 0)))
    (hr : ∀ w3, Kept (fun g => g = N ∨ g = N + 1) W w3 -> R (.returned (.tuple #[.int .i64 er.1, .int .i64 er.2])) w3) : LeavesInM Fence.wide 1 Tryz.prog Tryz.f43 tmps R [rdfn N] (.panicking [{ v := pvS er, recovered := false }]) W := by
  refine ⟨(by intro h; cases h), .inr ⟨fun _ => Nat.le_refl _, _, _, _, _, rfl, zgh N _, fun _ _ => trivial, ?_⟩⟩
  refine (zoF N (N + 1) er x y t2 t3 _ c2 c3 (by omega)).mono ?_
  rintro en u' w3 ⟨⟨v, rfl⟩, rfl, hk3, s2, s3, d2, d3⟩
  exact ⟨_, zmG h2 h3 d2 d3, hr _ hk3⟩
end
set_option maxHeartbeats 1000000 in
theorem zmH {w : World} {f : FuncId} {caps : Array Value} {R : Except (Int × Int) Unit -> World -> Prop} (hen : ∀ w, (callFunc f caps).run Tryz.prog w = .ok (.enter f caps) w)
    (hcall : Calls Tryz.prog f caps (runW w) fun e w' => (runW w).heap.size ≤ w'.heap.size ∧ w'.heap[w.heap.size]? = (runW w).heap[w.heap.size]? ∧ w'.heap[w.heap.size + 1]? = (runW w).heap[w.heap.size + 1]? ∧ ((∃ v, e = .returned v ∧ R (.ok ()) w') ∨ ∃ er, e = .panicked [{ v := pvS er, recovered := false }] ∧ R (.error er) w')) :
    Calls Tryz.prog 43 #[.func (.func f) #[] caps] w fun e w'' => ∃ r w', R r w' ∧ (runW w).heap.size ≤ w'.heap.size ∧ Kept (fun g => g = w.heap.size ∨ g = w.heap.size + 1) w' w'' ∧ e = .returned (.tuple #[.int .i64 (runE r).1, .int .i64 (runE r).2]) := by
  refine callsIn_wide.1 (zef (m := 1) Tryz.func43 rfl ?_)
  simp only [Tryz.ntmps43, List.size_toArray, List.length_cons, List.length_nil, Nat.reduceAdd, Nat.reduceSub, Array.replicate_succ, Array.replicate_zero, List.push_toArray, List.append_toArray, List.nil_append, List.cons_append]
  generalize hQ : bodyPostM Fence.wide 1 Tryz.prog Tryz.f43 _ = Q
  have hmf := mkF
  refine zbX (zb4 (m := 1) ?_)
  gi_wp2
  refine zbX (zb4 (m := 1) ?_)
  gi_wp2
  refine zbX (zb4 (m := 1) ?_)
  gi_wp2
  refine ⟨trivial, (callsIn_wide.2 hcall).mono ?_⟩
  rintro e w' ⟨hsz, hb0, hb1, ⟨v, rfl, hR⟩ | ⟨er, rfl, hR⟩⟩
  · have c0 : w'.heap[w.heap.size]? = some (.cells #[.int .i64 0] 3 (0, 0)) := hb0.trans (zaM _ (zbD _ rfl))
    have c1 : w'.heap[w.heap.size + 1]? = some (.cells #[.int .i64 0] 25 (0, 0)) := hb1.trans (zbD _ (by simp))
    have d0 := zaO c0
    have d1 := zaO ((Below.heap_setCell w' ⟨w.heap.size, 0, none⟩ (.int .i64 0) (w.heap.size + 1) (by show w.heap.size + 1 ≠ w.heap.size; omega)).trans c1)
    gi_wp2
    refine zbX (zb4 (m := 1) ?_)
    gi_wp2
    have f0 := zej (.int .i64 0) c0
    have f1 := (Below.heap_setCell w' ⟨w.heap.size, 0, none⟩ (.int .i64 0) (w.heap.size + 1) (by show w.heap.size + 1 ≠ w.heap.size; omega)).trans c1
    have f2 := zej (.int .i64 0) f1
    have f3 := (Below.heap_setCell (w'.setCell ⟨w.heap.size, 0, none⟩ (.int .i64 0)) ⟨w.heap.size + 1, 0, none⟩ (.int .i64 0) w.heap.size (by show w.heap.size ≠ w.heap.size + 1; omega)).trans f0
    have k1 := zc6 (R := fun g => g = w.heap.size ∨ g = w.heap.size + 1) w' w.heap.size (.int .i64 0) (.inl rfl)
    have k2 := zc6 (R := fun g => g = w.heap.size ∨ g = w.heap.size + 1) (w'.setCell ⟨w.heap.size, 0, none⟩ (.int .i64 0)) (w.heap.size + 1) (.int .i64 0) (.inr rfl)
    refine zb4 (m := 1) (wpIn_ret ?_)
    rw [<- hQ]
    refine zoK rfl rfl f3 f2 fun w3 hk => ⟨.ok (), w', hR, hsz, ?_, rfl⟩
    exact (k1.trans k2).trans hk
  · have c0 : w'.heap[w.heap.size]? = some (.cells #[.int .i64 0] 3 (0, 0)) := hb0.trans (zaM _ (zbD _ rfl))
    have c1 : w'.heap[w.heap.size + 1]? = some (.cells #[.int .i64 0] 25 (0, 0)) := hb1.trans (zbD _ (by simp))
    rw [<- hQ]
    exact zoL rfl rfl c0 c1 fun w3 hk => ⟨.error er, w', hR, hsz, hk, rfl⟩
end Go.Proofs.YtpeaigpfddalcaaGreatDoor
namespace Go.Proofs.YtpeaigpfddalcaaGreatDoor
open Go Go.RowKit
set_option linter.unusedSimpArgs false
set_option linter.unusedVariables false
set_option maxRecDepth 100000
abbrev tupI : Ty := .tup i64 (.tup i64 .unit)
section
variable {w0 : World} {X : Ownr} {n m K : Nat} {Q : Exit -> AS -> Prop} {ops : Array Oper} {F : Frame} {E : Owns} {nx : Nat}
theorem AL.runClo (hX : X.Ok w0) (K : Nat) {o1 o2 : Oper} {rest : List Oper} {f : FuncId} {fn : Func} {c : Code} {x0 x1 : Operand} {d1 d2 : Nat} {ts : Array TypeId} (ho1 : o1.op = .makeFunc (.func f) #[] #[x0, x1]) (ho2 : o2.op = .call ⟨.value (.func 43), #[.tmp d1], ts⟩)
    (hg1 : o1.guard = none) (hg2 : o2.guard = none) (hd1 : o1.dst = some d1) (hd2 : o2.dst = some d2) (hn1 : Nat.blt d1 n = true) (hn2 : Nat.blt d2 n = true) (hb : zeh E K = true) (hKn : Nat.ble K nx = true) (hK : X.K ≤ K)
    (hf : Tryz.prog.funcs[f]? = some fn) (hbd : fn.body = some c) (hn : fn.ntmps = m) (hres : fn.results = #[]) (hm : Nat.ble 2 m = true) (hen : ∀ (vs : Array Value) (w : World), (callFunc f vs).run Tryz.prog w = .ok (.enter f vs) w) {v0 v1 : V} (hv0 : evO F x0 = v0) (hv1 : evO F x1 = v1) (hbF : bndB nx [(0, v0), (1, v1)] = true) {N : Except (Int × Int) Unit -> AS -> Prop}
    (hw : ∀ (w1 : World) (X' : Ownr), X'.Ok w1 -> X'.G = X.G -> X'.K = K -> X'.ρ = none -> X'.D = [] -> (∀ g, X'.R g -> w0.heap.size ≤ g ∨ X.R g) -> AWP Tryz.prog w1 X' m c ⟨[(0, v0), (1, v1)], E, nx⟩ (fun e σ => ((e = .normal ∨ e = .ret) ∧ N (.ok ()) σ) ∨ ∃ er, e = .panic [{ v := pvS er, recovered := false }] ∧ N (.error er) σ))
    (h : ∀ r σ, N r σ -> AL Tryz.prog w0 X n ops rest ⟨(d2, ⟨tupI, ((runE r).1, (runE r).2, ())⟩) :: (d1, ⟨.junk, ()⟩) :: zgD K F, σ.E, σ.nx⟩ Q) : AL Tryz.prog w0 X n ops (o1 :: o2 :: rest) ⟨F, E, nx⟩ Q := by
  intro β a w hs
  have hl1 : d1 < n := by simpa using hn1
  have hl2 : d2 < n := by simpa using hn2
  have hsz := hs.sz
  refine wpListIn_plain hg1 fun K1 hK1 => zco (fun c e => by rw [ho1] at e; cases e) ?_
  have hr1 : (execOp a.eval o1).run Tryz.prog w = .ok (.value (.func (.func f) #[] #[a.eval x0, a.eval x1])) w := by
    unfold execOp
    simp only [ho1]
    refine zdG ?_
    simp [Instr.makeFunc]
  refine zbq hr1 (hK1 _ _ ?_)
  rw [hd1]
  refine wpListIn_plain hg2 fun K2 hK2 => zco (fun c e => by rw [ho2] at e; cases e) ?_
  refine zew ho2 Tryz.call43 ?_
  have hc : ((#[Operand.tmp d1] : Array Operand).toList.map (a.put (some d1) (.func (.func f) #[] #[a.eval x0, a.eval x1])).eval).toArray = #[.func (.func f) #[] #[a.eval x0, a.eval x1]] := by
    have : (a.put (some d1) (.func (.func f) #[] #[a.eval x0, a.eval x1])).eval (.tmp d1) = .func (.func f) #[] #[a.eval x0, a.eval x1] := by
      show (a.put (some d1) _).tmps.getD d1 undef = _
      rw [Act.put_get (by rw [hsz]; exact hl1), if_pos rfl]
    rw [List.map_cons, this]
    rfl
  rw [hc]
  have hws := zmJ w
  have hfr : ∀ s, RepV w (OSet X E β) β (Frame.get [(0, v0), (1, v1)] s).t (Frame.get [(0, v0), (1, v1)] s).x (((#[a.eval x0, a.eval x1] : Array Value) ++ Array.replicate (m - (#[a.eval x0, a.eval x1] : Array Value).size) undef).getD s undef) := by
    refine zbo ?_ (zbo ?_ zff)
    · have := hs.ops x0
      rw [show evO (AS.mk F E nx).F x0 = _ from hv0] at this
      simpa [Array.getD_eq_getD_getElem?, Array.getElem?_append] using this
    · have := hs.ops x1
      rw [show evO (AS.mk F E nx).F x1 = _ from hv1] at this
      simpa [Array.getD_eq_getD_getElem?, Array.getElem?_append] using this
  have hin := Sim.inl (K := K) (m := m) (w1 := runW w) (ex := fun g => g = w.heap.size ∨ g = w.heap.size + 1) hs hX (zlw w) (fun g hg => by omega) hb (Nat.le_of_ble_eq_true hKn) hK hf hbd hn hres (caps := #[a.eval x0, a.eval x1]) (by show 2 ≤ m; exact Nat.le_of_ble_eq_true hm) hfr hbF (Q := fun e σ => ((e = .normal ∨ e = .ret) ∧ N (.ok ()) σ) ∨ ∃ er, e = .panic [{ v := pvS er, recovered := false }] ∧ N (.error er) σ)
    (fun e σ hq => by
      rcases hq with ⟨rfl | rfl, _⟩ | ⟨er, rfl, _⟩
      · exact .inl rfl
      · exact .inr (.inl rfl)
      · exact .inr (.inr ⟨_, rfl⟩)) (fun X' h1 h2 h3 h4 h5 h6 => hw _ X' h1 h2 h3 h4 h5 h6)
  let R : Except (Int × Int) Unit -> World -> Prop := fun r w' => ∃ σ, N r σ ∧ ∀ w'', Kept (fun g => g = w.heap.size ∨ g = w.heap.size + 1) w' w'' -> ∃ β', Sim w0 X n ⟨zgD K F, σ.E, σ.nx⟩ β' a w''
  refine (zmH (R := R) (hen _) (hin.mono fun en w' hr => ?_)).mono fun en w'' hr => ?_
  · obtain ⟨h1, h2, e, σ, he, hq, hfin⟩ := hr
    refine ⟨h1, h2 _ (.inl rfl), h2 _ (.inr rfl), ?_⟩
    rcases hq with ⟨hq, hN⟩ | ⟨er, rfl, hN⟩
    · rcases he with ⟨_, v, rfl⟩ | ⟨ch, rfl, _⟩
      · exact .inl ⟨v, rfl, σ, hN, hfin⟩
      · rcases hq with hq | hq <;> cases hq
    · rcases he with ⟨hq | hq, _⟩ | ⟨ch, hq, rfl⟩
      · cases hq
      · cases hq
      · cases hq
        exact .inr ⟨er, rfl, σ, hN, hfin⟩
  · obtain ⟨r, w', ⟨σ, hN, hfin⟩, hsz2, hk, rfl⟩ := hr
    obtain ⟨β', h'⟩ := hfin w'' hk
    refine ⟨_, rfl, hK2 _ _ ?_⟩
    rw [hd2]
    have h2 := h'.put (Below.refl _ _) (d := d1) (v := ⟨.junk, ()⟩) (u := .func (.func f) #[] #[a.eval x0, a.eval x1]) trivial (Nat.zero_le _) hl1
    have h3 := h2.put (Below.refl _ _) (d := d2) (v := ⟨tupI, ((runE r).1, (runE r).2, ())⟩) (u := .tuple #[.int .i64 (runE r).1, .int .i64 (runE r).2]) ⟨[_, _], rfl, _, _, rfl, rfl, _, _, rfl, rfl, rfl⟩ (Nat.zero_le _) hl2
    exact h r σ hN β' _ w'' h3
end
theorem zkA (s : List UInt8) : zdF s 0 = zaW s := by
  unfold zdF
  rw [show ((0 : Int)).toNat = 0 from rfl, List.drop_zero]
  show (Tok.cls (zaW s), Tok.at (zaW s) + 0, Tok.size (zaW s), Tok.text (zaW s), Tok.n (zaW s), ()) = zaW s
  rw [Int.add_zero]
  rfl
def zbt (s : List UInt8) : List Nd × Int × Int := if 4000 < s.length then ([], 0, 2) else match zee s with
  | .ok t => (t.flat 0, 0, 0)
  | .error e => ([], e.1, e.2)
def zn3 : Ctr := { args := [.str], pre := fun _ => [], res := .tup (.slice nd) (.tup i64 (.tup i64 .unit)), own := none, out := fun x => ((zbt x.1).1, (zbt x.1).2.1, (zbt x.1).2.2, ()) }
def zoh (s : List UInt8) (r : Except (Int × Int) Unit) (σ : AS) : Prop := (∃ t, zee s = .ok t ∧ r = .ok () ∧ Fit σ ⟨[], [(0, some (.box .str s)), (1, some (.box (.slice nd) (t.flat 0)))], 2⟩) ∨ ∃ er, zee s = .error er ∧ r = .error er ∧ Fit σ ⟨[], [(0, some (.box .str s)), (1, some (.box (.slice nd) []))], 2⟩
theorem zgI (s : List UInt8) : zee s = (zet s (zaW s, 0)).map (·.1) := by
  unfold zee zg7
  rw [zkA]
theorem zlM {w1 : World} {X : Ownr} {s : List UInt8} (hs : s.length ≤ 4000) (hX : X.Ok w1) (hG : X.G = gmH) (hK : X.K = 2) (hρ : X.ρ = none) (hD : X.D = []) (hinv : ∀ ty, ginv w1 X.R ty) :
    AWP Tryz.prog w1 X Tryz.f44.ntmps (Tryz.f44.body.getD .skip) ⟨[(0, ⟨.optr .str, ⟨0, .str, .here⟩⟩), (1, ⟨.optr (.slice nd), ⟨1, .slice nd, .here⟩⟩)], [(0, some (.box .str s)), (1, some (.box (.slice nd) []))], 2⟩ (fun e σ => ((e = .normal ∨ e = .ret) ∧ zoh s (.ok ()) σ) ∨ ∃ er, e = .panic [{ v := pvS er, recovered := false }] ∧ zoh s (.error er) σ) := by
  obtain ⟨G, O, K, fix, D, ρ, B⟩ := X
  obtain rfl : G = gmH := hG
  obtain rfl : K = 2 := hK
  obtain rfl : ρ = none := hρ
  obtain rfl : D = [] := hD
  have hI := fun ty => zaD (ty := ty) hX rfl (hinv ty) (ty' := ty)
  have hl : s.length ≤ 100000 := by omega
  (repeat (first | refine zae ?_ | refine zac ?_ | refine zab ?_ | refine zad ?_)); refine zah ?_
  refine AL.take 1 hX zaj rfl trivial ?_
  refine AL.fresh hX zdJ rfl rfl rfl rfl rfl rfl trivial hl ⟨rfl, rfl⟩ rfl rfl ?_
  refine AL.nilLeaf 2 6 73 nd rfl rfl rfl ?_
  refine AL.fit (σ' := ⟨[(0, ⟨.optr .str, ⟨0, .str, .here⟩⟩), (1, ⟨.optr (.slice nd), ⟨1, .slice nd, .here⟩⟩), (3, ⟨.hptr, ((2 : Nat), (0 : Nat))⟩)], [(0, some (.box .str s)), (1, some (.box (.slice nd) [])), (2, some (.hbox 139 [⟨.str, s⟩, ⟨i64, (zaW s).1⟩, ⟨i64, (zaW s).2.1⟩, ⟨i64, (zaW s).2.2.1⟩, ⟨.str, (zaW s).2.2.2.1⟩, ⟨i64, (zaW s).2.2.2.2.1⟩, ⟨.obuf nd, (3 : Nat)⟩, ⟨i64, (0 : Int)⟩])), (3, some (.buf 73 nd []))], 4⟩) ⟨⟨rfl, rfl, rfl, trivial⟩, ⟨rfl, rfl, rfl, rfl, trivial⟩, rfl, rfl⟩ ?_
  have hg0 : GOk s (zaW s, 0) := by
    have := zf2 (s := s)
    unfold zg7 at this
    rwa [zkA] at this
  have hok : pOk (s, zaW s, [], 0, ()) := ⟨hg0, hl⟩
  have hfew : few (s, zaW s, [], 0, ()) := Int.le_refl 0
  refine AL.give hX zmM rfl rfl rfl rfl rfl rfl rfl rfl rfl rfl rfl rfl trivial ⟨hok, hfew⟩ (hI 139) rfl rfl ?_
  cases h3 : zet s (zaW s, 0) with
  | error er =>
    rw [show zdP s (stOf (s, zaW s, [], 0, ())) [] = .error (pvS er) by unfold zdP; rw [show stOf (s, zaW s, ([] : List Nd), (0 : Int), ()) = (zaW s, 0) from rfl, h3]; rfl]
    refine .inr ⟨er, rfl, .inr ⟨er, ?_, rfl, trivial, ⟨rfl, rfl, trivial⟩, rfl, rfl⟩⟩
    rw [zgI, h3]
    rfl
  | ok p =>
    rw [show zdP s (stOf (s, zaW s, [], 0, ())) [] = .ok (p.1.flat 0) by unfold zdP; rw [show stOf (s, zaW s, ([] : List Nd), (0 : Int), ()) = (zaW s, 0) from rfl, h3]; rfl]
    show AL _ _ _ _ _ _ _ _
    refine AL.all hX zaj rfl trivial ?_
    refine .inl ⟨.inl rfl, .inl ⟨p.1, ?_, rfl, trivial, ⟨rfl, rfl, trivial⟩, rfl, rfl⟩⟩
    rw [zgI, h3]
    rfl
theorem zkH : CtrOk Tryz.prog gmH 16 zn3 := by
  refine zaq (K := gmK) zaj Tryz.func16 rfl rfl Tryz.call16 rfl (by decide) (by intro h; cases h) ?_
  rintro w0 O hX ⟨(s : List UInt8), ⟨⟩⟩ hp
  have hg0 : gmH w0 := hX.2.2 w0 (Kept.refl _ _)
  change AWP _ _ _ _ _ ⟨[(0, ⟨.str, s⟩)], [], 0⟩ _
  (repeat (first | refine zae ?_ | refine zac ?_ | refine zab ?_ | refine zad ?_)); refine zaa hX zaj rfl ?_ ?_
  · trivial
  (repeat (first | refine zae ?_ | refine zac ?_ | refine zab ?_ | refine zad ?_)); refine zaa hX zaj rfl ?_ ?_
  · trivial
  refine zai rfl (fun hb => ?_) (fun hb => ?_)
  · have hb : decide (((4000 : Nat) : Int) < ((s.length : Nat) : Int)) = true := hb
    have hb := of_decide_eq_true hb
    have hP : zbt s = ([], 0, 2) := if_pos (by omega)
    (repeat (first | refine zae ?_ | refine zac ?_ | refine zak ?_ | refine zad ?_ | refine zab ?_ | refine zaa hX zaj rfl trivial ?_ | refine zaa hX zaj rfl id ?_ | refine zaa hX zaj rfl ⟨id, id⟩ ?_))
    refine AWP.ret ⟨.inr rfl, zba (by decide) rfl rfl trivial ?_⟩
    show _ = ((zbt s).1, (zbt s).2.1, (zbt s).2.2, ())
    rw [hP]
  have hb : decide (((4000 : Nat) : Int) < ((s.length : Nat) : Int)) = false := hb
  have hb := of_decide_eq_false hb
  have hP : zbt s = match zee s with
    | .ok t => (t.flat 0, 0, 0)
    | .error e => ([], e.1, e.2) := if_neg (by omega)
  refine zac ?_
  (repeat (first | refine zae ?_ | refine zac ?_ | refine zab ?_ | refine zad ?_)); refine zaa hX zaj rfl ?_ ?_
  · trivial
  refine zan (σ' := ⟨[(1, ⟨.optr .str, ⟨0, .str, .here⟩⟩), (5, ⟨.optr (.slice nd), ⟨1, .slice nd, .here⟩⟩)], [(0, some (.box .str s)), (1, some (.box (.slice nd) []))], 2⟩) ⟨⟨rfl, rfl, trivial⟩, ⟨rfl, rfl, trivial⟩, rfl, rfl⟩ ?_
  (repeat (first | refine zae ?_ | refine zac ?_ | refine zab ?_ | refine zad ?_)); refine zah ?_
  refine AL.runClo hX 2 rfl rfl rfl rfl rfl rfl rfl rfl rfl rfl (Nat.zero_le _) Tryz.func44 rfl rfl rfl rfl Tryz.call44 rfl rfl rfl (N := zoh s) (fun w1 X' h1 h2 h3 h4 h5 h6 => ?_) (fun r σ hN => ?_)
  · refine zlM (by omega) h1 h2 h3 h4 h5 fun ty => ?_
    obtain ⟨l1, l2⟩ := zkX hg0
    refine ⟨fun h => ?_, fun h => ?_⟩
    · rcases h6 _ h with h7 | h7
      · omega
      · exact Ownr.plain_noR _ _ _ h7
    · rcases h6 _ h with h7 | h7
      · omega
      · exact Ownr.plain_noR _ _ _ h7
  rcases hN with ⟨t, hN, rfl, hf⟩ | ⟨er, hN, rfl, hf⟩
  · skip
    refine AL.fit (σ' := ⟨[(13, ⟨tupI, ((0 : Int), (0 : Int), ())⟩), (1, ⟨.optr .str, ⟨0, .str, .here⟩⟩), (5, ⟨.optr (.slice nd), ⟨1, .slice nd, .here⟩⟩)], [(0, some (.box .str s)), (1, some (.box (.slice nd) (t.flat 0)))], 2⟩) ⟨⟨rfl, rfl, rfl, trivial⟩, hf.e, rfl, rfl⟩ ?_
    refine AL.all hX zaj rfl trivial ?_
    (repeat (first | refine zae ?_ | refine zac ?_ | refine zak ?_ | refine zad ?_ | refine zab ?_ | refine zaa hX zaj rfl trivial ?_ | refine zaa hX zaj rfl id ?_ | refine zaa hX zaj rfl ⟨id, id⟩ ?_))
    refine AWP.ret ⟨.inr rfl, zba (by decide) rfl rfl trivial ?_⟩
    show _ = ((zbt s).1, (zbt s).2.1, (zbt s).2.2, ())
    rw [hP, hN]
  · skip
    refine AL.fit (σ' := ⟨[(13, ⟨tupI, (er.1, er.2, ())⟩), (1, ⟨.optr .str, ⟨0, .str, .here⟩⟩), (5, ⟨.optr (.slice nd), ⟨1, .slice nd, .here⟩⟩)], [(0, some (.box .str s)), (1, some (.box (.slice nd) []))], 2⟩) ⟨⟨rfl, rfl, rfl, trivial⟩, hf.e, rfl, rfl⟩ ?_
    refine AL.all hX zaj rfl trivial ?_
    (repeat (first | refine zae ?_ | refine zac ?_ | refine zak ?_ | refine zad ?_ | refine zab ?_ | refine zaa hX zaj rfl trivial ?_ | refine zaa hX zaj rfl id ?_ | refine zaa hX zaj rfl ⟨id, id⟩ ?_))
    refine AWP.ret ⟨.inr rfl, zba (by decide) rfl rfl trivial ?_⟩
    show _ = ((zbt s).1, (zbt s).2.1, (zbt s).2.2, ())
    rw [hP, hN]
theorem zl8 (w : World) (q : Nat) (os : Array Obj) : Below w.heap.size w (Sort.grow (w.drewN q) os) :=
  ⟨rfl, rfl, rfl, by show w.heap.size ≤ (w.heap ++ os).size; rw [Array.size_append]; omega, fun i hi => by
    show (w.heap ++ os)[i]? = _
    rw [Array.getElem?_append_left hi]⟩
abbrev deI (n : Int) : List UInt8 := Lib.itoa n
theorem zla (k : Nat) : ∀ n, n < 10 ^ (k + 1) -> (Lib.decDigits n).length ≤ k + 1 := by
  induction k with
  | zero =>
    intro n h
    rw [Lib.decDigits]
    by_cases hn : n < 10
    · rw [dif_pos hn]; exact Nat.le_refl _
    · exact absurd (by simpa using h) hn
  | succ k ih =>
    intro n h
    rw [Lib.decDigits]
    by_cases hn : n < 10
    · rw [dif_pos hn]; simp
    · rw [dif_neg hn, List.length_append]
      have := ih (n / 10) (by rw [Nat.pow_succ] at h; omega)
      simp only [List.length_singleton]
      omega
theorem zgR {n : Int} (h0 : -100000000000000000 < n) (h1 : n < 100000000000000000) : (deI n).length ≤ 18 := by
  unfold deI Lib.itoa
  have e : (10 : Nat) ^ (16 + 1) = 100000000000000000 := by decide
  split
  · rw [List.length_cons]
    have := zla 16 n.natAbs (by rw [e]; omega)
    omega
  · have := zla 16 n.toNat (by rw [e]; omega)
    omega
def zbS (n : Int) : Prop := -100000000000000000 < n ∧ n < 100000000000000000
def cItoa : Ctr := { args := [i64], pre := fun x => [zbS x.1], res := .str, own := none, out := fun x => deI x.1 }
theorem zqL : CtrOk Tryz.prog gmH 149 cItoa := by
  refine ⟨Tryz.call149, fun w O xs vs hO hr hp hG => ?_⟩
  obtain ⟨(n : Int), _⟩ := xs
  obtain ⟨v1, r1, rfl, e1, rfl⟩ := hr
  have e1 : [v1] = [Value.int .i64 n] := e1
  cases e1
  obtain ⟨h0, h1⟩ : -100000000000000000 < n ∧ n < 100000000000000000 := hp
  refine (Any.strconv_Itoa Tryz.laysM171 n (by omega) (by omega) w hG.1).mono ?_
  rintro e w' ⟨rfl, k, os, rfl⟩
  refine ⟨_, rfl, zl8 w k os, fun β => ⟨rfl, ?_⟩⟩
  have := zgR h0 h1
  show (deI n).length ≤ maxLen
  unfold maxLen
  omega
def levS (k : Int) : Int := if k = 9 then 1 else if k = 10 then 2 else if k = 8 then 3 else if 11 ≤ k ∧ k ≤ 17 then 4 else 5
def zp0 : Ctr := { args := [i64], pre := fun _ => [], res := i64, own := none, out := fun x => levS x.1 }
def opKd (i : Nat) : Int := (opsL.getD i ([], 0, ())).2.1
theorem zo5 : CtrOk Tryz.prog gmH 98 zp0 := by
  refine zaq (K := kBi) za8 Tryz.func98 rfl rfl Tryz.call98 rfl (by decide) (by intro h; cases h) ?_
  rintro w0 X hX ⟨(kd : Int), ⟨⟩⟩ hp
  change AWP _ _ _ _ _ ⟨[(0, ⟨i64, kd⟩)], [], 0⟩ _
  (repeat (first | refine zae ?_ | refine zac ?_ | refine zab ?_ | refine zad ?_)); refine zaa hX za8 rfl ?_ ?_
  · trivial
  (repeat (first | refine zae ?_ | refine zac ?_ | refine zab ?_ | refine zad ?_)); refine zaa hX za8 rfl ?_ ?_
  · trivial
  refine zab ?_
  refine AWP.loop (ι := Nat) (fun i => ⟨[(0, ⟨i64, kd⟩), (5, ⟨.slice gop, opsL⟩), (6, ⟨i64, (3 : Int)⟩), (7, ⟨i64, (i : Int)⟩)], [], 0⟩) (fun i => i ≤ 3 ∧ ∀ j < i, opKd j ≠ kd) (fun i => 3 - i) 0 ⟨by omega, fun j h => by omega⟩ ⟨⟨rfl, rfl, rfl, rfl, trivial⟩, trivial, rfl, rfl⟩ ?_
  rintro i ⟨hi, hall⟩
  (repeat (first | refine zae ?_ | refine zac ?_ | refine zab ?_ | refine zad ?_)); refine zaa hX za8 rfl ?_ ?_
  · trivial
  refine zae ?_
  refine zai rfl (fun hb => ?_) (fun hb => ?_)
  · have hb : decide ((i : Int) < (3 : Int)) = true := hb
    have hb := of_decide_eq_true hb
    have hi3 : i < 3 := by omega
    have n0 : (0 : Int) ≤ (i : Int) := by omega
    have n1 : (i : Int) < ((opsL.length : Nat) : Int) := by show (i : Int) < ((3 : Nat) : Int); omega
    refine zac ?_
    refine zae ?_
    refine zab ?_
    (repeat (first | refine zae ?_ | refine zac ?_ | refine zab ?_ | refine zad ?_)); refine zaa hX za8 rfl ?_ ?_
    · exact ⟨n0, n1⟩
    (repeat (first | refine zae ?_ | refine zac ?_ | refine zab ?_ | refine zad ?_)); refine zaa hX za8 rfl ?_ ?_
    · trivial
    refine zai rfl (fun hk => ?_) (fun hk => ?_)
    · have hk : ((opsL.getD ((i : Int)).toNat ([], 0, ())).2.1 == kd) = true := hk
      have hk := beq_iff_eq.1 hk
      rw [Int.toNat_natCast] at hk
      have q0 : inR .i64 ((i : Int) + 1) := zat (by omega) (by omega)
      (repeat (first | refine zae ?_ | refine zac ?_ | refine zab ?_ | refine zad ?_)); refine zaa hX za8 rfl ?_ ?_
      · exact q0
      refine AWP.ret ⟨.inr rfl, zay rfl trivial rfl rfl ?_⟩
      show (i : Int) + 1 = levS kd
      rcases (show i = 0 ∨ i = 1 ∨ i = 2 by omega) with rfl | rfl | rfl
      · subst hk; rfl
      · subst hk; rfl
      · subst hk; rfl
    · have hk : ((opsL.getD ((i : Int)).toNat ([], 0, ())).2.1 == kd) = false := hk
      have hk : (opsL.getD i ([], 0, ())).2.1 ≠ kd := fun e => by
        rw [Int.toNat_natCast] at hk
        rw [beq_iff_eq.2 e] at hk
        cases hk
      refine zac ?_
      have q0 : inR .i64 ((i : Int) + 1) := zat (by omega) (by omega)
      (repeat (first | refine zae ?_ | refine zac ?_ | refine zab ?_ | refine zad ?_)); refine zaa hX za8 rfl ?_ ?_
      · exact q0
      refine ⟨i + 1, ⟨by omega, fun j hj => ?_⟩, by omega, ⟨rfl, rfl, rfl, vI64 (by omega), trivial⟩, trivial, rfl, rfl⟩
      by_cases e : j = i
      · subst e; exact hk
      · exact hall j (by omega)
  · have hb : decide ((i : Int) < (3 : Int)) = false := hb
    have hb := of_decide_eq_false hb
    have h9 : kd ≠ 9 := fun e => hall 0 (by omega) e.symm
    have h10 : kd ≠ 10 := fun e => hall 1 (by omega) e.symm
    have h8 : kd ≠ 8 := fun e => hall 2 (by omega) e.symm
    refine zad ?_
    (repeat (first | refine zae ?_ | refine zac ?_ | refine zab ?_ | refine zad ?_)); refine zaa hX za8 rfl ?_ ?_
    · repeat' (first | exact trivial | assumption | (refine ⟨?_, ?_⟩) | (intro _) | exact Nat.le_of_ble_eq_true rfl | exact Int.natCast_nonneg _ | (simp_all [allP]; done))
    refine zai rfl (fun hb => ?_) (fun hb => ?_)
    · have hb : (bif decide ((11 : Int) ≤ kd) then decide (kd ≤ 17) else false) = true := hb
      rw [zca, Bool.and_eq_true, decide_eq_true_iff, decide_eq_true_iff] at hb
      (repeat (first | refine zae ?_ | refine zac ?_ | refine zak ?_ | refine zad ?_ | refine zab ?_ | refine zaa hX za8 rfl trivial ?_ | refine zaa hX za8 rfl id ?_ | refine zaa hX za8 rfl ⟨id, id⟩ ?_))
      refine AWP.ret ⟨.inr rfl, zay rfl trivial rfl rfl ?_⟩
      show (4 : Int) = levS kd
      unfold levS
      rw [if_neg h9, if_neg h10, if_neg h8, if_pos hb]
    · have hb : (bif decide ((11 : Int) ≤ kd) then decide (kd ≤ 17) else false) = false := hb
      have hb : ¬ (11 ≤ kd ∧ kd ≤ 17) := fun h => by
        rw [zca, decide_eq_true h.1, decide_eq_true h.2] at hb
        cases hb
      refine zac ?_
      (repeat (first | refine zae ?_ | refine zac ?_ | refine zak ?_ | refine zad ?_ | refine zab ?_ | refine zaa hX za8 rfl trivial ?_ | refine zaa hX za8 rfl id ?_ | refine zaa hX za8 rfl ⟨id, id⟩ ?_))
      refine AWP.ret ⟨.inr rfl, zay rfl trivial rfl rfl ?_⟩
      show (5 : Int) = levS kd
      unfold levS
      rw [if_neg h9, if_neg h10, if_neg h8, if_neg hb]
def zcg (n : Int) : List UInt8 := if n = 1 then 32 :: zdz else 32 :: ziy
def zn0 : Ctr := { args := [i64], pre := fun x => [0 ≤ x.1, x.1 ≤ 1], res := .str, own := none, out := fun x => zcg x.1 }
theorem zmB : CtrOk Tryz.prog gmH 151 zn0 := by
  refine zaq (K := gmK) zaj Tryz.func151 rfl rfl Tryz.call151 rfl (by decide) (by intro h; cases h) ?_
  rintro w0 X hX ⟨(n : Int), ⟨⟩⟩ hp
  obtain ⟨h0, h1⟩ : 0 ≤ n ∧ n ≤ 1 := hp
  change AWP _ _ _ _ _ ⟨[(0, ⟨i64, n⟩)], [], 0⟩ _
  have hlt : n < ((2 : Nat) : Int) := by omega
  have hlt2 : n.toNat < 2 := by omega
  (repeat (first | refine zae ?_ | refine zac ?_ | refine zab ?_ | refine zad ?_)); refine zaa hX zaj rfl ?_ ?_
  · trivial
  (repeat (first | refine zae ?_ | refine zac ?_ | refine zab ?_ | refine zad ?_)); refine zaa hX zaj rfl ?_ ?_
  · exact ⟨h0, hlt, hlt2⟩
  refine AWP.ret ⟨.inr rfl, zay rfl trivial rfl rfl ?_⟩
  rcases (show n = 0 ∨ n = 1 by omega) with rfl | rfl
  · rfl
  · rfl
theorem eqP0 (o : Oper) (x : Operand) (h : o.op = .fieldAddr 107 x 0) : OpEq Tryz.prog o { o with op := .fieldAddr 133 x 0 } := by
  refine ⟨rfl, rfl, rfl, fun ev w => ?_⟩
  unfold execOp
  simp only [h]
  cases ev x <;> simp [go_sem]
theorem eqP1 (o : Oper) (x : Operand) (h : o.op = .fieldAddr 107 x 1) : OpEq Tryz.prog o { o with op := .fieldAddr 73 x 2 } := by
  refine ⟨rfl, rfl, rfl, fun ev w => ?_⟩
  unfold execOp
  simp only [h]
  cases ev x <;> simp [go_sem]
@[reducible] def hW (args : List Ty) (pre : (bTy prT).T -> Args args -> List Prop) (out : (bTy prT).T -> Args args -> List UInt8) : HCtr := hBl prT [107] args .unit pre fun x xs => .ok ((), (true, ((x.2.1 ++ out x xs : List UInt8), x.2.2)))
@[reducible] def wE (ty : TypeId) (b : Bool) (bf : List UInt8) (r : List Nd) : Owns := [(0, some (.hbox ty [adV 0 b, ⟨.obuf u8, (1 : Nat)⟩, ⟨.slice nd, r⟩])), (1, some (.buf 5 u8 bf))]
def wQ (rs : List ResultVar) (c : HCtr) (ty : TypeId) (r : Except Value (c.res.T × c.self.T)) (e : Exit) (σ : AS) : Prop := zoj gmT rs c ty e σ r
def zdB (l : List Int) : List UInt8 := (l.map fun n => 32 :: deI n).flatten
def putS (s : List UInt8) (l : List Int) : List UInt8 := s ++ zdB l
theorem zlQ (l : List Int) (n : Int) : zdB (l ++ [n]) = zdB l ++ 32 :: deI n := by
  unfold zdB
  rw [List.map_append, List.flatten_append]
  simp
theorem zbu {l : List Int} (h : ∀ n ∈ l, zbS n) : (zdB l).length ≤ 19 * l.length := by
  induction l with
  | nil => exact Nat.le_refl _
  | cons n l ih =>
    have h1 := zgR (h n (List.mem_cons_self ..)).1 (h n (List.mem_cons_self ..)).2
    have h2 := ih fun m hm => h m (List.mem_cons_of_mem _ hm)
    show ((32 :: deI n) ++ zdB l).length ≤ _
    rw [List.length_append, List.length_cons, List.length_cons]
    omega
def kPt : Kn := { gmK with C := [(149, cItoa)] }
theorem zb1 : KnOk Tryz.prog gmH kPt := zaj.with (.cons zqL .nil)
def hPt : List (FuncId × HCtr) := [(66, cWSP)]
theorem zkV : HsOk Tryz.prog gmH hPt := .cons zhe .nil
@[reducible] def cPut : HCtr := hW [.str, ints] (fun x xs => [List.length x.2.1 + List.length xs.1 + 19 * List.length xs.2.1 ≤ 1000000000, ∀ n ∈ xs.2.1, zbS n]) fun x xs => putS xs.1 xs.2.1
theorem bufU {te : TypeId} {x y : List UInt8} (h : x = y) : some (OObj.buf te u8 x) = some (OObj.buf te u8 y) := by rw [h]
theorem zmX : zaA Tryz.prog gmH 100 cPut := by
  refine zar (K := _) zb1 Tryz.func100 rfl rfl (zb8 rfl) Tryz.call100 rfl (Nat.le_of_ble_eq_true rfl) (zdb prT [107]) ?_
  rintro w0 ⟨G, O, K, fix, D, ρ, B⟩ ty hX hG hK hρ hD hinv ⟨(b : Bool), (bf : List UInt8), (r : List Nd), ⟨⟩⟩ ⟨(s : List UInt8), (l : List Int), ⟨⟩⟩ hp
  obtain rfl : G = gmH := hG
  obtain rfl : K = 1 := hK
  obtain rfl : ρ = none := hρ
  obtain rfl : D = [] := hD
  have hI := fun w R hR hw => (⟨zaD (ty := ty) hX rfl hinv.1 (ty' := ty) w R hR hw, hinv.2⟩ : bInv prT [107] w R ty)
  obtain ⟨hlen, hnum⟩ : bf.length + s.length + 19 * l.length ≤ 1000000000 ∧ ∀ n ∈ l, zbS n := hp
  change AWP _ _ _ _ _ ⟨[(0, ⟨.hptr, ((0 : Nat), (0 : Nat))⟩), (1, ⟨.str, s⟩), (2, ⟨.slice i64, l⟩)], wE ty b bf r, 2⟩ (wQ _ cPut ty (.ok ((), (true, ((bf ++ (s ++ zdB l) : List UInt8), (r, ()))))))
  have hl0 : bf.length + s.length ≤ 1000000000 := by omega
  refine AWP.via (σ' := ⟨[(0, ⟨.hptr, ((0 : Nat), (0 : Nat))⟩), (2, ⟨.slice i64, l⟩)], wE ty true ((bf ++ s : List UInt8)) r, 2⟩) ?_ ?_
  · cases b
    all_goals
      refine zah ?_
      refine AL.take 2 hX zb1 rfl trivial ?_
      refine AL.step (eqP0 _ _ rfl) hX zb1 rfl trivial ?_
      refine AL.own 1 hX zb1 zkV rfl trivial rfl rfl hl0 hI ?_
      exact AL.nil ⟨⟨rfl, rfl, trivial⟩, ⟨rfl, rfl, trivial⟩, rfl, rfl⟩
  (repeat (first | refine zae ?_ | refine zac ?_ | refine zab ?_ | refine zad ?_)); refine zaa hX zb1 rfl ?_ ?_
  · trivial
  refine zab ?_
  refine AWP.loop (ι := Nat) (fun i => ⟨[(0, ⟨.hptr, ((0 : Nat), (0 : Nat))⟩), (13, ⟨.slice i64, l⟩), (14, ⟨i64, ((l.length : Nat) : Int)⟩), (15, ⟨i64, (i : Int)⟩)], wE ty true ((bf ++ s ++ zdB (l.take i) : List UInt8)) r, 2⟩) (fun i => i ≤ l.length) (fun i => l.length - i) 0 (Nat.zero_le _) ⟨⟨rfl, rfl, rfl, rfl, trivial⟩, ⟨rfl, bufU (by show bf ++ s = bf ++ s ++ []; rw [List.append_nil]), trivial⟩, rfl, rfl⟩ ?_
  intro i hi
  (repeat (first | refine zae ?_ | refine zac ?_ | refine zab ?_ | refine zad ?_)); refine zaa hX zb1 rfl ?_ ?_
  · trivial
  refine zae ?_
  refine zai rfl (fun hb => ?_) (fun hb => ?_)
  · have hb : decide ((i : Int) < ((l.length : Nat) : Int)) = true := hb
    have hb := of_decide_eq_true hb
    have hil : i < l.length := by omega
    have n0 : (0 : Int) ≤ (i : Int) := by omega
    have hat : l.getD ((i : Int)).toNat 0 = l[i] := zaR hil
    have hn : zbS (l.getD ((i : Int)).toNat 0) := by rw [hat]; exact hnum _ (List.getElem_mem hil)
    have hd := zgR hn.1 hn.2
    have ht : List.length (l.take i) ≤ i := by rw [List.length_take]; omega
    have hnt := zbu (l := l.take i) fun n hm => hnum n (List.mem_of_mem_take hm)
    have hbl : List.length (bf ++ s ++ zdB (l.take i) : List UInt8) + List.length (32 :: deI (l.getD ((i : Int)).toNat 0) : List UInt8) ≤ 1000000000 := by
      rw [List.length_append, List.length_append, List.length_cons]
      omega
    have hcat : 1 + List.length (deI (l.getD ((i : Int)).toNat 0)) ≤ maxLen := by unfold maxLen; omega
    refine zac ?_
    refine zae ?_
    refine zab ?_
    (repeat (first | refine zae ?_ | refine zac ?_ | refine zab ?_ | refine zad ?_)); refine zaa hX zb1 rfl ?_ ?_
    · exact ⟨n0, hb⟩
    refine AWP.mono (Q := fun e sg => e = .normal ∧ Fit sg ⟨[(0, ⟨.hptr, ((0 : Nat), (0 : Nat))⟩), (13, ⟨.slice i64, l⟩), (14, ⟨i64, ((l.length : Nat) : Int)⟩), (15, ⟨i64, (i : Int)⟩)], wE ty true ((bf ++ s ++ zdB (l.take i) ++ (32 :: deI (l.getD ((i : Int)).toNat 0)) : List UInt8)) r, 2⟩) ?_ ?_
    · refine AWP.ordersA dM 7 rfl (by kernel_rfl) ?_
      repeat' (first
        | exact AllN.nil
        | refine AllN.cons ⟨_, rfl, ?_⟩ ?_
        | refine StepA.eval hX zb1 rfl trivial ?_
        | refine StepA.eval hX zb1 rfl (by exact hn) ?_
        | refine StepA.eval hX zb1 rfl (by exact hcat) ?_
        | refine StepA.step (eqP0 _ _ rfl) hX zb1 rfl trivial ?_
        | refine StepA.own hX zkV rfl (by exact hbl) hI ?_
        | (refine OrdA.last ?_; exact ⟨rfl, ⟨rfl, rfl, rfl, rfl, trivial⟩, ⟨rfl, rfl, trivial⟩, rfl, rfl⟩))
    · rintro e s' ⟨rfl, hf⟩
      have q0 : inR .i64 ((i : Int) + 1) := zat (by omega) (by omega)
      refine zan hf ?_ (by exact Nat.le_of_ble_eq_true rfl)
      (repeat (first | refine zae ?_ | refine zac ?_ | refine zab ?_ | refine zad ?_)); refine zaa hX zb1 rfl ?_ ?_
      · exact q0
      refine ⟨i + 1, hil, by omega, ⟨rfl, rfl, rfl, vI64 (by omega), trivial⟩, ⟨rfl, bufU ?_, trivial⟩, rfl, rfl⟩
      rw [hat, List.take_succ_eq_append_getElem hil, zlQ, <- List.append_assoc]
  · have hb : decide ((i : Int) < ((l.length : Nat) : Int)) = false := hb
    have hb := of_decide_eq_false hb
    obtain rfl : i = l.length := by omega
    rw [show (bf ++ (s ++ zdB l) : List UInt8) = bf ++ s ++ zdB (l.take l.length) from by rw [List.take_length, List.append_assoc]]
    refine zad ?_
    exact ⟨.inl rfl, ⟨_, rfl, u8, 1, _, rfl, rfl, rfl⟩, zba (by decide) rfl rfl trivial rfl⟩
section
variable {P : Program} {K : Kn} {w0 : World} {X : Ownr} {n : Nat} {σ : AS} {β : Nat -> Value} {a : Act} {w : World} {R : Exit -> Act -> World -> Prop} {ops : Array Oper}
theorem znV (hK : KnOk P X.G K) (hX : X.Ok w0) (h : Sim w0 X n σ β a w) {m : Nat} (hB : zh9 ops m = true) {r1 : List Prop × AS} (h1 : zhd K n ops (ops.toList.take m) σ = some r1)
    (hp1 : allP r1.1) (hT : ∀ a' w', Sim w0 X n r1.2 β a' w' -> wpList P ops R (ops.toList.drop m) a' w') : wpAny P .any ops R ops.size (Array.replicate ops.size false) a { w with drawn := w.drawn + 1 } := by
  simp only [zh9, Bool.and_eq_true, Nat.ble_eq] at hB
  obtain ⟨⟨⟨⟨hms, hflow⟩, hback⟩, htl0⟩, hseq⟩ := hB
  have htl : m = ops.size ∨ (Region.sinkB .any ops m = true ∧ Region.chainB .any ops m = true) := by
    simp only [Bool.or_eq_true, Bool.and_eq_true, Nat.beq_eq] at htl0
    exact htl0
  obtain ⟨rs, hl, hps, hr1, hspec⟩ := zfy _ _ _ h1
  have hlen : (ops.toList.take m).length = m := by simp; omega
  rw [hlen] at hl
  have hget : ∀ i, i < m -> ∃ o d q, ops[i]? = some o ∧ o.dst = some d ∧ d < n ∧ rs[i]? = some q ∧ gOp K n ops σ.E (zcD σ.F (ops.toList.take i) ((rs.map (·.2)).take i)) o = some q := by
    intro i hi
    have hlt : i < ops.size := by omega
    obtain ⟨d, q, e1, e2, e3, e4⟩ := hspec i ops[i] (by rw [List.getElem?_take, if_pos hi]; simp [hlt])
    rw [List.take_take, Nat.min_eq_left (by omega)] at e4
    exact ⟨ops[i], d, q, by simp [hlt], e1, e2, e3, e4⟩
  have hsome : ∀ k, k ≤ m -> ∀ o ∈ ops.toList.take k, o.dst.isSome = true := by
    intro k hk o ho
    obtain ⟨i, hi⟩ := List.mem_iff_getElem?.1 ho
    rw [List.getElem?_take] at hi
    split at hi
    · obtain ⟨o', d, q, e1, e2, _⟩ := hget i (by omega)
      have : o' = o := by
        have : ops.toList[i]? = some o' := by simpa using e1
        rw [this] at hi; cases hi; rfl
      rw [<- this, e2]; rfl
    · cases hi
  have hdist : ∀ i j oi oj, i < m -> j < m -> ops[i]? = some oi -> ops[j]? = some oj -> i ≠ j -> oi.dst ≠ oj.dst := by
    intro i j oi oj hi hj hoi hoj hij
    have h3 := List.all_eq_true.1 hflow j (List.mem_range.2 hj)
    rw [hoj] at h3
    have h4 := List.all_eq_true.1 h3 i (List.mem_range.2 hi)
    rw [hoi] at h4
    simp only [Bool.and_eq_true, Bool.or_eq_true, Nat.beq_eq, Bool.not_eq_true'] at h4
    rcases h4.1 with h5 | h5
    · exact absurd h5 hij
    · intro e; rw [e] at h5; simp at h5
  have hdep : ∀ i j oi oj t, i < m -> j < m -> ops[i]? = some oi -> ops[j]? = some oj -> t ∈ zlt ops oj -> oi.dst = some t -> i < j ∧ ∃ e ∈ oj.after, e.on = i ∧ Region.binds .any e = true := by
    intro i j oi oj t hi hj hoi hoj ht hd
    have h3 := List.all_eq_true.1 hflow j (List.mem_range.2 hj)
    rw [hoj] at h3
    have h4 := List.all_eq_true.1 h3 i (List.mem_range.2 hi)
    rw [hoi] at h4
    simp only [Bool.and_eq_true] at h4
    have h5 := List.all_eq_true.1 h4.2 t ht
    rw [hd] at h5
    simp only [beq_self_eq_true, Bool.not_true, Bool.false_or, Bool.and_eq_true] at h5
    refine ⟨by simpa using h5.1, ?_⟩
    obtain ⟨e, he, h6⟩ := Array.any_eq_true'.1 h5.2
    simp only [Bool.and_eq_true, Nat.beq_eq] at h6
    exact ⟨e, he, h6.1, h6.2⟩
  let W := w.drew
  have hsim : Sim w0 X n σ β a W := ⟨h.sz, h.df, h.bel.then ((Below.refl _ _).drew), fun s => RepV.keep (.of_below ((Below.refl _ _).drew) fun _ _ h => h) _ _ _ (h.fr s), fun i o ho => (h.own i o ho).keep (.of_below ((Below.refl _ _).drew) fun _ _ h => h) fun _ _ => rfl, h.new, h.inj, h.lt, h.fix, h.hb, h.hE⟩
  let I : Array Bool -> Act -> World -> Prop := fun listed a' w' =>
    a'.tmps.size = n ∧ a'.defers = X.D ∧ Below W.heap.size W w' ∧ (∀ s, (∀ i o, i < m -> ops[i]? = some o -> o.dst ≠ some s) -> a'.tmps.getD s undef = a.tmps.getD s undef) ∧
    (∀ i o d q, i < m -> ops[i]? = some o -> o.dst = some d -> rs[i]? = some q -> listed.getD i false = true -> RepV w' (OSet X σ.E β) β q.2.t q.2.x (a'.tmps.getD d undef))
  have hsum : ops.size = left (Array.replicate ops.size false) m + (ops.size - m) := by
    have : left (Array.replicate ops.size false) m = m := by
      unfold left
      have : (List.range m).filter (fun i => !(Array.replicate ops.size false).getD i false) = List.range m := by
        rw [List.filter_eq_self]
        intro i _
        rw [getD_replicate_false]
        rfl
      rw [this, List.length_range]
    omega
  have hown : ∀ w', Below W.heap.size W w' -> ∀ i o, Owns.get σ.E i = some o -> OwnRep w' (OSet X σ.E β) β 0 (β i) o := fun w' hb i o ho =>
    (hsim.own i o ho).keep (.of_below hb fun _ _ h => h) fun g hg => hb.block g ((hsim.own i o ho).block_lt hg).2
  have hO : ∀ w', Below W.heap.size W w' -> ∀ g, OSet X σ.E β g -> g < w'.heap.size := fun w' hb g hg => Nat.lt_of_lt_of_le (hsim.hO hX g hg) hb.size
  suffices hkey : wpAny P .any ops R (left (Array.replicate ops.size false) m + (ops.size - m)) (Array.replicate ops.size false) a W by
    rw [<- hsum] at hkey
    exact hkey
  refine zdV hms hback htl I ?_ ?_ _ _ a W rfl ⟨by simp, fun j oj _ hlj => (by rw [getD_replicate_false] at hlj; cases hlj), fun t _ ht => getD_in (by simpa using ht) (getD_replicate_false _ _)⟩ ⟨h.sz, h.df, Below.refl _ _, fun _ _ => rfl, fun i o d q _ _ _ _ hli => by rw [getD_replicate_false] at hli; cases hli⟩
  ·
    rintro listed a' w' ⟨i1, i2, i3, i4, i5⟩ i him hir
    obtain ⟨hun, o', ho', hdone⟩ := mem_ready.1 hir
    obtain ⟨o, d, q, ho, hd, hdn, hq, hg⟩ := hget i him
    have : o' = o := by rw [ho] at ho'; cases ho'; rfl
    subst this
    unfold wpOp
    rw [ho]
    simp only
    have hqp : allP q.1 := hps hp1 q (List.mem_of_getElem? hq)
    refine znH hK (hX.2.2 w' (hsim.bel.then i3)) (hO w' i3) (hown w' i3) hg hqp i1 (fun t ht => ?_) fun u w2 hb2 hr2 => ?_
    · by_cases hex : ∃ k ok, k < m ∧ ops[k]? = some ok ∧ ok.dst = some t
      · obtain ⟨k, ok, hkm, hok, hkd⟩ := hex
        obtain ⟨hki, e, he, heon, heb⟩ := hdep k i ok o' t hkm him hok ho ht hkd
        have hlk := hdone e he heb
        rw [heon] at hlk
        obtain ⟨ok', dk, qk, g1, g2, g3, g4, g5⟩ := hget k hkm
        have : ok' = ok := by rw [hok] at g1; cases g1; rfl
        subst this
        have hv := zcM (ops.toList.take i) ((rs.map (·.2)).take i) σ.F t k ok' qk.2 (hsome i (by omega)) (by rw [List.getElem?_take, if_pos hki]; simpa using hok) hkd
          (by rw [List.getElem?_take, if_pos hki, List.getElem?_map, g4]; rfl) (fun k' o'' hkk hk' => by
            rw [List.getElem?_take] at hk'
            split at hk'
            · have := hdist k' k o'' ok' (by omega) hkm (by simpa using hk') hok (by omega)
              rw [hkd] at this; exact this
            · cases hk')
        rw [hv]
        exact i5 k ok' t qk hkm hok hkd g4 hlk
      · have hno : ∀ o ∈ ops.toList.take i, o.dst ≠ some t := by
          intro o2 ho2 hd2
          obtain ⟨k, hk⟩ := List.mem_iff_getElem?.1 ho2
          rw [List.getElem?_take] at hk
          split at hk
          · exact hex ⟨k, o2, by omega, by simpa using hk, hd2⟩
          · cases hk
        rw [zbR _ _ _ _ (hsome i (by omega)) hno, i4 t fun k ok hk hok hdk => hex ⟨k, ok, hk, hok, hdk⟩]
        exact RepV.keep (.of_below i3 fun _ _ h => h) _ _ _ (hsim.fr t)
    · have hb : Below W.heap.size W w2 := i3.trans (hb2.mono i3.size)
      rw [hd]
      refine ⟨by rw [Act.put_size]; exact i1, by rw [Act.put_defers]; exact i2, hb, fun s hs => ?_, fun j oj dj qj hj hoj hdj hqj hlj => ?_⟩
      · rw [Act.put_get (by rw [i1]; exact hdn), if_neg (fun e => hs i o' him ho (by rw [hd, e]))]
        exact i4 s hs
      · rw [Act.put_get (by rw [i1]; exact hdn)]
        by_cases hji : i = j
        · subst hji
          have : oj = o' := by rw [ho] at hoj; cases hoj; rfl
          subst this
          have : dj = d := by rw [hd] at hdj; cases hdj; rfl
          subst this
          have : qj = q := by rw [hq] at hqj; cases hqj; rfl
          subst this
          rw [if_pos rfl]
          exact hr2
        · have hne : d ≠ dj := fun e => hdist i j o' oj him hj ho hoj hji (by rw [hd, hdj, e])
          rw [if_neg hne]
          rw [getD_set_ne false hji] at hlj
          exact RepV.keep (.of_below hb2 fun _ _ h => h) _ _ _ (i5 j oj dj qj hj hoj hdj hqj hlj)
  ·
    rintro listed a' w' inv hall ⟨i1, i2, i3, i4, i5⟩
    have hlist : listed = (List.replicate m true ++ List.replicate (ops.size - m) false).toArray := by
      apply Array.ext
      · rw [inv.size]; simp; omega
      · intro i h1 h2
        rw [inv.size] at h1
        by_cases him : i < m
        · have := hall i him
          simp only [Array.getD, show i < listed.size by rw [inv.size]; exact h1, dif_pos] at this
          have e : listed[i] = true := this
          rw [e]
          simp [List.getElem_append, him]
        · have := inv.tail i (by omega) h1
          have := getD_both this
          simp only [Array.getD, show i < listed.size by rw [inv.size]; exact h1, dif_pos] at this
          have e : listed[i] = false := this
          rw [e]
          simp [List.getElem_append, him]
    subst hlist
    have hfin : Sim w0 X n r1.2 β a' w' := by
      rw [hr1]
      refine ⟨i1, i2, hsim.bel.then i3, fun s => ?_, hown w' i3, hsim.new, hsim.inj, hsim.lt, hsim.fix, fun s => ?_, hsim.hE⟩
      · show RepV w' (OSet X σ.E β) β (Frame.get (zcD σ.F (ops.toList.take m) (rs.map (·.2))) s).t _ _
        by_cases hex : ∃ k ok, k < m ∧ ops[k]? = some ok ∧ ok.dst = some s
        · obtain ⟨k, ok, hkm, hok, hkd⟩ := hex
          obtain ⟨ok', dk, qk, g1, g2, g3, g4, g5⟩ := hget k hkm
          have : ok' = ok := by rw [hok] at g1; cases g1; rfl
          subst this
          have hv := zcM (ops.toList.take m) (rs.map (·.2)) σ.F s k ok' qk.2 (hsome m (Nat.le_refl _)) (by rw [List.getElem?_take, if_pos hkm]; simpa using hok) hkd
            (by rw [List.getElem?_map, g4]; rfl) (fun k' o'' hkk hk' => by
              rw [List.getElem?_take] at hk'
              split at hk'
              · have := hdist k' k o'' ok' (by omega) hkm (by simpa using hk') hok (by omega)
                rw [hkd] at this; exact this
              · cases hk')
          rw [hv]
          exact i5 k ok' s qk hkm hok hkd g4 (hall k hkm)
        · have hno : ∀ o ∈ ops.toList.take m, o.dst ≠ some s := by
            intro o2 ho2 hd2
            obtain ⟨k, hk⟩ := List.mem_iff_getElem?.1 ho2
            rw [List.getElem?_take] at hk
            split at hk
            · exact hex ⟨k, o2, by omega, by simpa using hk, hd2⟩
            · cases hk
          rw [zbR _ _ _ _ (hsome m (Nat.le_refl _)) hno, i4 s fun k ok hk hok hdk => hex ⟨k, ok, hk, hok, hdk⟩]
          exact RepV.keep (.of_below i3 fun _ _ h => h) _ _ _ (hsim.fr s)
      · show (Frame.get (zcD σ.F (ops.toList.take m) (rs.map (·.2))) s).bound ≤ σ.nx
        have hbd : ∀ k, k ≤ m -> ∀ s, (Frame.get (zcD σ.F (ops.toList.take k) ((rs.map (·.2)).take k)) s).bound ≤ σ.nx := by
          intro k
          induction k with
          | zero => intro _ s; simpa [zcD] using hsim.hb s
          | succ k ih =>
            intro hk s
            obtain ⟨o, d, q, e1, e2, e3, e4, e5⟩ := hget k (by omega)
            have hb := zgJ e5 (ih (by omega)) (fun i o ho => ⟨hsim.lt i o ho, hsim.hE i o ho⟩) fun t τ ht => (hK.t.lay t τ ht).data
            by_cases hsd : o.dst = some s
            · have hv := zcM (ops.toList.take (k + 1)) ((rs.map (·.2)).take (k + 1)) σ.F s k o q.2 (hsome (k + 1) hk) (by rw [List.getElem?_take, if_pos (by omega)]; simpa using e1) hsd
                (by rw [List.getElem?_take, if_pos (by omega), List.getElem?_map, e4]; rfl) (fun k' o'' hkk hk' => by
                  rw [List.getElem?_take] at hk'
                  split at hk'
                  · omega
                  · cases hk')
              rw [hv]
              exact hb
            · by_cases hex : ∃ k' ok, k' < k ∧ ops[k']? = some ok ∧ ok.dst = some s
              · obtain ⟨k', ok, hk', hok, hkd⟩ := hex
                obtain ⟨ok', dk, qk, g1, g2, g3, g4, g5⟩ := hget k' (by omega)
                have : ok' = ok := by rw [hok] at g1; cases g1; rfl
                subst this
                have both : ∀ j, k' < j -> j ≤ m -> Frame.get (zcD σ.F (ops.toList.take j) ((rs.map (·.2)).take j)) s = qk.2 := fun j hj hjm =>
                  zcM _ _ σ.F s k' ok' qk.2 (hsome j hjm) (by rw [List.getElem?_take, if_pos hj]; simpa using hok) hkd
                    (by rw [List.getElem?_take, if_pos hj, List.getElem?_map, g4]; rfl) (fun k2 o'' hkk hk2 => by
                      rw [List.getElem?_take] at hk2
                      split at hk2
                      · have := hdist k2 k' o'' ok' (by omega) (by omega) (by simpa using hk2) hok (by omega)
                        rw [hkd] at this; exact this
                      · cases hk2)
                rw [both (k + 1) (by omega) hk, <- both k hk' (by omega)]
                exact ih (by omega) s
              · have hno : ∀ o ∈ ops.toList.take (k + 1), o.dst ≠ some s := by
                  intro o2 ho2 hd2
                  obtain ⟨k2, hk2⟩ := List.mem_iff_getElem?.1 ho2
                  rw [List.getElem?_take] at hk2
                  split at hk2
                  · have hk2' : ops[k2]? = some o2 := by simpa using hk2
                    by_cases hkk : k2 = k
                    · subst hkk
                      rw [e1] at hk2'
                      cases hk2'
                      exact hsd hd2
                    · exact hex ⟨k2, o2, by omega, hk2', hd2⟩
                  · cases hk2
                rw [zbR _ _ _ _ (hsome (k + 1) hk) hno]
                exact hsim.hb s
        have := hbd m (Nat.le_refl _) s
        rwa [List.take_of_length_le (l := rs.map (·.2)) (by simp [hl])] at this
    have hlt : (ops.toList.drop m).length = ops.size - m := by simp
    have := wpAny_of_seq (P := P) (md := .any) (Q' := R) (ops := ops) (ops.toList.drop m) m (List.replicate m true ++ List.replicate (ops.size - m) false).toArray a' w' (fun j => by simp [List.getElem?_drop]) (by rw [hlt]; exact hseq) (hT a' w' hfin)
    rwa [hlt] at this
end
section
variable {P : Program} {K : Kn} {w0 : World} {X : Ownr} {n : Nat} {σ : AS} {Q : Exit -> AS -> Prop} {ops : Array Oper}
theorem AWP.drawT {l' : List Oper} (heq' : OpsI P ops.toList l') (hm : P.follows .mixedOrders = true) (hX : X.Ok w0) (hK : KnOk P X.G K) {id : Nat} (m : Nat) (hB : zh9 l'.toArray m = true) {r1 : List Prop × AS} (h1 : zhd K n l'.toArray (l'.take m) σ = some r1) (hp1 : allP r1.1) {o : Oper} (ho : l'.drop m = [o]) (hgd : o.guard = none)
    (hstep : ∀ β a w, Sim w0 X n r1.2 β a w -> o.wp P a w (fun a' w' => ∃ σ' β', Sim w0 X n σ' β' a' w' ∧ Q .normal σ') (fun e a' w' => e ≠ .outgrown ∧ ∃ σ' β', Sim w0 X n σ' β' a' w' ∧ Q e σ')) (hd : zbm ops.toList = true := by rfl) : AWP P w0 X n (.region id ops true) σ Q := fun β a w h => by
  have heq : OpsEq P ops.toList l'.toArray.toList := heq'.eq
  have hnl : ¬ LetsOut (fun e a' w' => e ≠ .outgrown ∧ ∃ σ' β', Sim w0 X n σ' β' a' w' ∧ Q e σ') := fun ⟨_, _, h, _⟩ => h rfl
  exact Go.wpIn_mono (wpIn_region_any hm (zbg (R := fun e a' w' => e ≠ .outgrown ∧ ∃ σ' β', Sim w0 X n σ' β' a' w' ∧ Q e σ') hnl hd _ (by
    rw [(zhZ heq).1]
    exact zll heq hnl _ (znV hK hX h hB h1 hp1 fun a' w' hs => by
      rw [show (l'.toArray.toList).drop m = [o] from ho]
      refine wpList_plain hgd fun K' hK' => Oper.wp_mono (fun a2 w2 ⟨σ', β', h3, h4⟩ => hK' a2 w2 ⟨(fun h => by cases h), σ', β', h3, h4⟩) (hstep β a' w' hs))))) fun e a w h => h.2
theorem AWP.drawOwn {C : List (FuncId × HCtr)} {l' : List Oper} (heq' : OpsI P ops.toList l') (hm : P.follows .mixedOrders = true) (hX : X.Ok w0) (hK : KnOk P X.G K) (hC : HsOk P X.G C) {id : Nat} (m : Nat) (hB : zh9 l'.toArray m = true) {r1 : List Prop × AS} (h1 : zhd K n l'.toArray (l'.take m) σ = some r1) (hp1 : allP r1.1) {o : Oper} (ho : l'.drop m = [o]) (hgd : o.guard = none)
    {s : HSite} (hsite : zl0 C n o r1.2 = some s) (hq : allP s.q) (hinv : ∀ w R, (∀ g, R g -> w0.heap.size ≤ g ∨ X.R g) -> X.G w -> s.c.inv w R s.ty) (h : zkr (fun y x' => Q .normal (s.next y x')) (fun pv => Q (.panic [{ v := pv, recovered := false }]) s.lost) (s.c.out s.x s.xs)) (hd : zbm ops.toList = true := by rfl) : AWP P w0 X n (.region id ops true) σ Q :=
  AWP.drawT heq' hm hX hK m hB h1 hp1 ho hgd (fun β a w hsim => zh8 (N := fun σ' => Q .normal σ') hX hC hsite hq hinv h β a w hsim) hd
end
def sepS (i : Nat) : List UInt8 := if i = 0 then [32, 40] else [32]
def litS : Nat -> List Int -> List UInt8
  | _, [] => []
  | i, n :: r => sepS i ++ deI n ++ litS (i + 1) r
def zb0 (l : List Int) : List UInt8 := litS 0 l ++ [41]
theorem zi2 (n : Int) : ∀ (l : List Int) (i : Nat), litS i (l ++ [n]) = litS i l ++ (sepS (i + l.length) ++ deI n)
  | [], i => by
    show sepS i ++ deI n ++ [] = [] ++ (sepS (i + 0) ++ deI n)
    rw [List.append_nil]
    rfl
  | m :: l, i => by
    show sepS i ++ deI m ++ litS (i + 1) (l ++ [n]) = sepS i ++ deI m ++ litS (i + 1) l ++ _
    rw [zi2 n l (i + 1), List.append_assoc (sepS i ++ deI m), List.length_cons, show i + 1 + l.length = i + (l.length + 1) by omega]
theorem zky (i : Nat) : (sepS i).length ≤ 2 := by
  unfold sepS
  split
  · exact Nat.le_refl _
  · exact Nat.le_succ _
theorem zeQ : ∀ (l : List Int) (i : Nat), (∀ n ∈ l, zbS n) -> (litS i l).length ≤ 20 * l.length
  | [], i, _ => Nat.le_refl _
  | n :: l, i, h => by
    have h1 := zgR (h n (List.mem_cons_self ..)).1 (h n (List.mem_cons_self ..)).2
    have h2 := zeQ l (i + 1) fun m hm => h m (List.mem_cons_of_mem _ hm)
    have h3 := zky i
    show (sepS i ++ deI n ++ litS (i + 1) l).length ≤ _
    rw [List.length_append, List.length_append, List.length_cons]
    omega
@[reducible] def zld : HCtr := hW [ints] (fun x xs => [List.length x.2.1 + 20 * List.length xs.1 + 1 ≤ 1000000000, ∀ n ∈ xs.1, zbS n]) fun x xs => zb0 xs.1
theorem zkN : zaA Tryz.prog gmH 150 zld := by
  refine zar (K := _) zb1 Tryz.func150 rfl rfl (zb8 rfl) Tryz.call150 rfl (Nat.le_of_ble_eq_true rfl) (zdb prT [107]) ?_
  rintro w0 ⟨G, O, K, fix, D, ρ, B⟩ ty hX hG hK hρ hD hinv ⟨(b : Bool), (bf : List UInt8), (r : List Nd), ⟨⟩⟩ ⟨(l : List Int), ⟨⟩⟩ hp
  obtain rfl : G = gmH := hG
  obtain rfl : K = 1 := hK
  obtain rfl : ρ = none := hρ
  obtain rfl : D = [] := hD
  have hI := fun w R hR hw => (⟨zaD (ty := ty) hX rfl hinv.1 (ty' := ty) w R hR hw, hinv.2⟩ : bInv prT [107] w R ty)
  obtain ⟨hlen, hnum⟩ : bf.length + 20 * l.length + 1 ≤ 1000000000 ∧ ∀ n ∈ l, zbS n := hp
  change AWP _ _ _ _ _ ⟨[(0, ⟨.hptr, ((0 : Nat), (0 : Nat))⟩), (1, ⟨.slice i64, l⟩)], wE ty b bf r, 2⟩ (wQ _ zld ty (.ok ((), (true, ((bf ++ zb0 l : List UInt8), (r, ()))))))
  (repeat (first | refine zae ?_ | refine zac ?_ | refine zab ?_ | refine zad ?_)); refine zaa hX zb1 rfl ?_ ?_
  · trivial
  refine zab ?_
  refine AWP.loop (ι := Nat) (fun i => ⟨[(0, ⟨.hptr, ((0 : Nat), (0 : Nat))⟩), (6, ⟨.slice i64, l⟩), (7, ⟨i64, ((l.length : Nat) : Int)⟩), (8, ⟨i64, (i : Int)⟩)], wE ty (b || decide (0 < i)) ((bf ++ litS 0 (l.take i) : List UInt8)) r, 2⟩) (fun i => i ≤ l.length) (fun i => l.length - i) 0 (Nat.zero_le _) ⟨⟨rfl, rfl, rfl, rfl, trivial⟩, ⟨by cases b <;> rfl, bufU (by show bf = bf ++ []; rw [List.append_nil]), trivial⟩, rfl, by cases b <;> rfl⟩ ?_
  intro i hi
  obtain ⟨b', hb'⟩ : ∃ b', b' = (b || decide (0 < i)) := ⟨_, rfl⟩
  rw [<- hb']
  (repeat (first | refine zae ?_ | refine zac ?_ | refine zab ?_ | refine zad ?_)); refine zaa hX zb1 rfl ?_ ?_
  · trivial
  refine zae ?_
  refine zai rfl (fun hb => ?_) (fun hb => ?_)
  · have hb : decide ((i : Int) < ((l.length : Nat) : Int)) = true := hb
    have hb := of_decide_eq_true hb
    have hil : i < l.length := by omega
    have n0 : (0 : Int) ≤ (i : Int) := by omega
    have hat : l.getD ((i : Int)).toNat 0 = l[i] := zaR hil
    have hn : zbS (l.getD ((i : Int)).toNat 0) := by rw [hat]; exact hnum _ (List.getElem_mem hil)
    have hd := zgR hn.1 hn.2
    have ht : List.length (l.take i) = i := by rw [List.length_take]; omega
    have hnt := zeQ (l.take i) 0 fun n hm => hnum n (List.mem_of_mem_take hm)
    have hs := zky i
    have hbl : List.length (bf ++ litS 0 (l.take i) : List UInt8) + List.length (sepS i ++ deI (l.getD ((i : Int)).toNat 0) : List UInt8) ≤ 1000000000 := by
      rw [List.length_append, List.length_append]
      omega
    refine zac ?_
    refine zae ?_
    refine zab ?_
    (repeat (first | refine zae ?_ | refine zac ?_ | refine zab ?_ | refine zad ?_)); refine zaa hX zb1 rfl ?_ ?_
    · exact ⟨n0, hb⟩
    refine AWP.mono (Q := fun e sg => e = .normal ∧ Fit sg ⟨[(0, ⟨.hptr, ((0 : Nat), (0 : Nat))⟩), (6, ⟨.slice i64, l⟩), (7, ⟨i64, ((l.length : Nat) : Int)⟩), (8, ⟨i64, (i : Int)⟩)], wE ty true ((bf ++ litS 0 (l.take i) ++ (sepS i ++ deI (l.getD ((i : Int)).toNat 0)) : List UInt8)) r, 2⟩) ?_ ?_
    · have hsep : ([[32, 40], [32]] : List (List UInt8)).getD (min (i : Int) 1).toNat [] = sepS i := by
        cases i with
        | zero => rfl
        | succ k =>
          rw [show min (((k + 1 : Nat)) : Int) 1 = 1 by omega]
          rfl
      have m0 : (0 : Int) ≤ min (i : Int) 1 := by omega
      have m1 : min (i : Int) 1 < ((2 : Nat) : Int) := by omega
      have m2 : (min (i : Int) 1).toNat < 2 := by omega
      have hcat : List.length (([[32, 40], [32]] : List (List UInt8)).getD (min (i : Int) 1).toNat []) + List.length (deI (l.getD ((i : Int)).toNat 0)) ≤ maxLen := by rw [hsep]; unfold maxLen; omega
      have hbl2 : List.length (bf ++ litS 0 (l.take i) : List UInt8) + List.length (([[32, 40], [32]] : List (List UInt8)).getD (min (i : Int) 1).toNat [] ++ deI (l.getD ((i : Int)).toNat 0) : List UInt8) ≤ 1000000000 := by rw [hsep]; exact hbl
      rw [<- hsep]
      cases b'
      all_goals
        refine AWP.drawOwn (.cons (OpEq.refl _) <| .cons (OpEq.refl _) <| .cons (eqP0 _ _ rfl) <| .cons (OpEq.refl _) <| .cons (OpEq.refl _) <| .cons (OpEq.refl _) <| .cons (OpEq.refl _) <| .cons (OpEq.refl _) <| .cons (OpEq.refl _) <| .cons (OpEq.refl _) <| .cons (OpEq.refl _) <| .cons (OpEq.refl _) .nil) dM hX zb1 zkV 11 (by kernel_rfl) rfl ?_ rfl rfl rfl ?_ hI ?_
        · exact ⟨m0, m1, hn, hcat⟩
        · exact hbl2
        · exact ⟨rfl, ⟨rfl, rfl, rfl, rfl, trivial⟩, ⟨rfl, rfl, trivial⟩, rfl, rfl⟩
    · rintro e s' ⟨rfl, hf⟩
      have q0 : inR .i64 ((i : Int) + 1) := zat (by omega) (by omega)
      have ht1 : (b || decide (0 < i + 1)) = true := by simp
      refine zan hf ?_ (by exact Nat.le_of_ble_eq_true rfl)
      (repeat (first | refine zae ?_ | refine zac ?_ | refine zab ?_ | refine zad ?_)); refine zaa hX zb1 rfl ?_ ?_
      · exact q0
      refine ⟨i + 1, hil, by omega, ?_⟩
      rw [ht1]
      refine ⟨⟨rfl, rfl, rfl, vI64 (by omega), trivial⟩, ⟨rfl, bufU ?_, trivial⟩, rfl, rfl⟩
      rw [hat, List.take_succ_eq_append_getElem hil, zi2, ht, Nat.zero_add, List.append_assoc]
  · have hb : decide ((i : Int) < ((l.length : Nat) : Int)) = false := hb
    have hb := of_decide_eq_false hb
    obtain rfl : i = l.length := by omega
    have hnt := zeQ (l.take l.length) 0 fun n hm => hnum n (List.mem_of_mem_take hm)
    have hlt := List.take_length (l := l)
    rw [hlt] at hnt
    have hbl : List.length (bf ++ litS 0 (l.take l.length) : List UInt8) + List.length ([41] : List UInt8) ≤ 1000000000 := by
      rw [hlt, List.length_append]
      show bf.length + _ + 1 ≤ _
      omega
    rw [show (bf ++ zb0 l : List UInt8) = bf ++ litS 0 (l.take l.length) ++ [41] from by rw [hlt, List.append_assoc]; rfl]
    refine zad ?_
    cases b'
    all_goals
      show AWP _ _ _ _ _ _ _
      refine zah ?_
      refine AL.take 2 hX zb1 rfl trivial ?_
      refine AL.step (eqP0 _ _ rfl) hX zb1 rfl trivial ?_
      refine AL.own 0 hX zb1 zkV rfl trivial rfl rfl hbl hI ?_
      refine AL.nil ?_
      exact ⟨.inl rfl, ⟨_, rfl, u8, 1, _, rfl, rfl, rfl⟩, zba (by decide) rfl rfl trivial rfl⟩
def wAt : List UInt8 := [64]
def spW (w : List UInt8) : List UInt8 := 32 :: w
def ndK (n : Nd) : Int := n.1
def ndC (n : Nd) : Int := n.2.1
def ndL (n : Nd) : Int := n.2.2.1
def ndR (n : Nd) : Int := n.2.2.2.1
def ndN (n : Nd) : Int := n.2.2.2.2.1
def ndM (n : Nd) : Int := n.2.2.2.2.2.1
def ndI (n : Nd) : List Int := n.2.2.2.2.2.2.1
def ndS (n : Nd) : List UInt8 := n.2.2.2.2.2.2.2.1
def zdL (n : Nd) : List UInt8 :=
  if ndK n = 1 then putS ziz [ndN n, ndM n]
  else if ndK n = 2 then putS zfB [ndC n, ndN n, ndM n]
  else if ndK n = 3 then putS zce [ndC n] ++ zb0 (ndI n)
  else if ndK n = 4 then putS zaZ [ndC n] ++ zb0 (ndI n)
  else if ndK n = 5 then putS zbh [] ++ zb0 (ndI n)
  else if ndK n = 6 then putS zc4 [ndC n] ++ zb0 (ndI n)
  else if ndK n = 7 then putS wNth [ndC n, ndN n, ndM n] ++ putS (zcg (ndL n)) []
  else if ndK n = 18 then putS (wAt ++ ndS n) []
  else []
def zcr (b : List UInt8) (n : Nd) : List UInt8 :=
  if ndK n = 11 then putS (spW zey) [ndN n]
  else if ndK n = 12 then putS (spW zhH) [ndN n]
  else if ndK n = 13 then putS (spW zex) [ndN n]
  else if ndK n = 14 then putS (spW zeA) [] ++ zb0 (ndI n)
  else if ndK n = 15 then putS (spW zcf) [] ++ zb0 (ndI n)
  else if ndK n = 16 then putS (spW wPos) [ndC n] ++ (putS (zcg (ndM n)) [] ++ zb0 (ndI n))
  else if ndK n = 17 then putS (spW zbQ) [ndN n] ++ (putS (spW wOf ++ [32]) [] ++ b)
  else []
def opWd (x : Int) : List UInt8 := (opsL.getD (x - 1).toNat ([], 0, ())).1
def zas (r : List Nd) (i : Int) : Nd := r.getD i.toNat zNd
def parS (c : Bool) (t : List UInt8) : List UInt8 := if c then t else [40] ++ (t ++ [41])
def zcG : Nat -> List Nd -> Int -> List UInt8
  | 0, _, _ => []
  | k + 1, r, i =>
    if levS (ndK (zas r i)) < 4 then
      parS (decide (levS (ndK (zas r (ndL (zas r i)))) ≥ levS (ndK (zas r i)))) (zcG k r (ndL (zas r i))) ++ (putS ([32] ++ opWd (levS (ndK (zas r i))) ++ [32]) [] ++ parS (decide (levS (ndK (zas r (ndR (zas r i)))) ≥ levS (ndK (zas r i)) + 1)) (zcG k r (ndR (zas r i))))
    else if levS (ndK (zas r i)) = 4 then
      parS (decide (levS (ndK (zas r (ndL (zas r i)))) ≥ 4)) (zcG k r (ndL (zas r i))) ++ zcr (parS (decide (levS (ndK (zas r (ndR (zas r i)))) ≥ 5)) (zcG k r (ndR (zas r i)))) (zas r i)
    else zdL (zas r i)
def opdF (k : Nat) (r : List Nd) (i req : Int) : List UInt8 := parS (decide (levS (ndK (zas r i)) ≥ req)) (zcG k r i)
def zjC (n : Nd) : Prop := (zbS (ndC n) ∧ zbS (ndN n) ∧ zbS (ndM n)) ∧ (∀ x ∈ ndI n, zbS x) ∧ (ndI n).length ≤ 100 ∧ (ndS n).length ≤ 100 ∧ (ndK n = 7 -> 0 ≤ ndL n ∧ ndL n ≤ 1) ∧ (ndK n = 16 -> 0 ≤ ndM n ∧ ndM n ≤ 1)
def idx {α : Type} (f : α -> Bool) (l : List α) : Int := if l.findIdx f < l.length then (l.findIdx f : Int) else -1
theorem zkU {α : Type} {f : α -> Bool} {l : List α} (h : ∀ k (hk : k < l.length), f l[k] = false) : idx f l = -1 := by
  unfold idx
  rw [if_neg]
  intro hl
  have := List.findIdx_getElem (w := hl)
  rw [h _ hl] at this
  cases this
theorem zkT {α : Type} {f : α -> Bool} {l : List α} {k : Nat} (hk : k < l.length) (h : f l[k] = true) (hb : ∀ j (hj : j < k), f (l[j]'(Nat.lt_trans hj hk)) = false) : idx f l = (k : Int) := by
  have : l.findIdx f = k := by
    rw [List.findIdx_eq hk]
    exact ⟨h, fun j hj => hb j hj⟩
  unfold idx
  rw [this, if_pos hk]
theorem znB {α : Type} (f : α -> Bool) (l : List α) : decide (idx f l ≥ 0) = l.any f := by
  rw [Bool.eq_iff_iff, decide_eq_true_iff, List.any_eq_true]
  unfold idx
  constructor
  · intro h
    split at h
    · rename_i hl
      exact ⟨l[l.findIdx f], List.getElem_mem hl, List.findIdx_getElem (w := hl)⟩
    · omega
  · rintro ⟨x, hx, hf⟩
    rw [if_pos (List.findIdx_lt_length_of_exists ⟨x, hx, hf⟩)]
    omega
def inB (n lo hi : Int) : Bool := decide (lo ≤ n) && decide (n ≤ hi)
def zbd : Ctr := { args := [i64, i64, i64], pre := fun _ => [], res := .bool, own := none, out := fun x => inB x.1 x.2.1 x.2.2.1 }
theorem ziv : CtrOk Tryz.prog gmH 119 zbd := by
  refine zaq (K := gmK) zaj Tryz.func119 rfl rfl Tryz.call119 rfl (by decide) (by intro h; cases h) ?_
  rintro w0 X hX ⟨(n : Int), (lo : Int), (hi : Int), _⟩ hp
  change AWP _ _ _ _ _ ⟨[(0, ⟨i64, n⟩), (1, ⟨i64, lo⟩), (2, ⟨i64, hi⟩)], [], 0⟩ _
  (repeat (first | refine zae ?_ | refine zac ?_ | refine zab ?_ | refine zad ?_)); refine zaa hX zaj rfl ?_ ?_
  · trivial
  (repeat (first | refine zae ?_ | refine zac ?_ | refine zab ?_ | refine zad ?_)); refine zaa hX zaj rfl ?_ ?_
  · repeat' (first | exact trivial | assumption | (refine ⟨?_, ?_⟩) | (intro _))
  refine AWP.ret ⟨.inr rfl, zay rfl trivial rfl rfl ?_⟩
  show (bif decide (lo ≤ n) then decide (n ≤ hi) else false) = inB n lo hi
  unfold inB
  cases decide (lo ≤ n) <;> rfl
def not1 (n : Int) : Bool := !(n == 1)
def cNot1 : Ctr := { args := [i64], pre := fun _ => [], res := .bool, own := none, out := fun x => not1 x.1 }
theorem zqy : CtrOk Tryz.prog gmH 124 cNot1 := by
  refine zaq (K := gmK) zaj Tryz.func124 rfl rfl Tryz.call124 rfl (by decide) (by intro h; cases h) ?_
  rintro w0 X hX ⟨(n : Int), _⟩ hp
  change AWP _ _ _ _ _ ⟨[(0, ⟨i64, n⟩)], [], 0⟩ _
  (repeat (first | refine zae ?_ | refine zac ?_ | refine zak ?_ | refine zad ?_ | refine zab ?_ | refine zaa hX zaj rfl trivial ?_ | refine zaa hX zaj rfl id ?_ | refine zaa hX zaj rfl ⟨id, id⟩ ?_))
  refine AWP.ret ⟨.inr rfl, zay rfl trivial rfl rfl ?_⟩
  rfl
def bigN (n : Nd) : Bool := decide (((n.2.2.2.2.2.2.1.length : Nat) : Int) > 64) || decide (((n.2.2.2.2.2.2.2.1.length : Nat) : Int) > 32)
def cBigN : Ctr := { args := [nd], pre := fun _ => [], res := .bool, own := none, out := fun x => bigN x.1 }
theorem zrt : CtrOk Tryz.prog gmH 70 cBigN := by
  refine zaq (K := gmK) zaj Tryz.func70 rfl rfl Tryz.call70 rfl (by decide) (by intro h; cases h) ?_
  rintro w0 X hX ⟨(n : Nd), _⟩ hp
  change AWP _ _ _ _ _ ⟨[(0, ⟨nd, n⟩)], [], 0⟩ _
  (repeat (first | refine zae ?_ | refine zac ?_ | refine zab ?_ | refine zad ?_)); refine zaa hX zaj rfl ?_ ?_
  · trivial
  (repeat (first | refine zae ?_ | refine zac ?_ | refine zab ?_ | refine zad ?_)); refine zaa hX zaj rfl ?_ ?_
  · repeat' (first | exact trivial | assumption | (refine ⟨?_, ?_⟩) | (intro _))
  refine AWP.ret ⟨.inr rfl, zay rfl trivial rfl rfl ?_⟩
  show (bif decide (((n.2.2.2.2.2.2.1.length : Nat) : Int) > 64) then true else decide (((n.2.2.2.2.2.2.2.1.length : Nat) : Int) > 32)) = bigN n
  unfold bigN
  cases decide (((n.2.2.2.2.2.2.1.length : Nat) : Int) > 64) <;> rfl
def litN : Value := .func (.func 70) #[] #[]
def litU : Value := .func (.func 124) #[] #[]
def cIdxR : Ctr := { args := [.slice nd, .lit], pre := fun x => [x.2.1 = litN], res := i64, own := none, out := fun x => idx bigN x.1 }
def kIdxR : Kn := { gmK with C := [(70, cBigN)] }
theorem zbN : KnOk Tryz.prog gmH kIdxR := zaj.with (.cons zrt .nil)
theorem zqQ : CtrOk Tryz.prog gmH 118 cIdxR := by
  refine zaq (K := kIdxR) zbN Tryz.func118 rfl rfl Tryz.call118 rfl (by decide) (by intro h; cases h) ?_
  rintro w0 X hX ⟨(l : List Nd), (f : Value), _⟩ hp
  obtain rfl : f = litN := hp
  change AWP _ _ _ _ _ ⟨[(0, ⟨.slice nd, l⟩), (1, ⟨.lit, litN⟩)], [], 0⟩ _
  refine AWP.len 0 rfl fun hl => ?_
  unfold maxLen at hl
  (repeat (first | refine zae ?_ | refine zac ?_ | refine zak ?_ | refine zad ?_ | refine zab ?_ | refine zaa hX zbN rfl trivial ?_ | refine zaa hX zbN rfl id ?_ | refine zaa hX zbN rfl ⟨id, id⟩ ?_))
  refine AWP.loop (ι := Nat) (fun k => ⟨[(0, ⟨.slice nd, l⟩), (1, ⟨.lit, litN⟩), (7, ⟨i64, ((l.length : Nat) : Int)⟩), (8, ⟨i64, (k : Int)⟩)], [], 0⟩) (fun k => k ≤ l.length ∧ ∀ j (hj : j < l.length), j < k -> bigN l[j] = false) (fun k => l.length - k) 0 ⟨by omega, by omega⟩ ⟨⟨rfl, rfl, rfl, rfl, trivial⟩, trivial, rfl, rfl⟩ ?_
  rintro k ⟨hk, hn⟩
  (repeat (first | refine zae ?_ | refine zac ?_ | refine zab ?_ | refine zad ?_)); refine zaa hX zbN rfl ?_ ?_
  · trivial
  refine zae ?_
  refine zai rfl (fun hb => ?_) (fun hb => ?_)
  · have hb : decide ((k : Int) < (l.length : Nat)) = true := hb
    have hb := of_decide_eq_true hb
    have hlt : k < l.length := by omega
    have n0 : (0 : Int) ≤ (k : Int) := by omega
    (repeat (first | refine zae ?_ | refine zac ?_ | refine zab ?_ | refine zad ?_)); refine zaa hX zbN rfl ?_ ?_
    · trivial
    (repeat (first | refine zae ?_ | refine zac ?_ | refine zab ?_ | refine zad ?_)); refine zaa hX zbN rfl ?_ ?_
    · exact ⟨n0, hb⟩
    refine zai rfl (fun hb => ?_) (fun hb => ?_)
    · have hc : bigN (l.getD (k : Int).toNat zNd) = true := hb
      rw [zaR hlt] at hc
      (repeat (first | refine zae ?_ | refine zac ?_ | refine zak ?_ | refine zad ?_ | refine zab ?_ | refine zaa hX zbN rfl trivial ?_ | refine zaa hX zbN rfl id ?_ | refine zaa hX zbN rfl ⟨id, id⟩ ?_))
      refine AWP.ret ⟨.inr rfl, zay rfl trivial rfl rfl ?_⟩
      show (k : Int) = idx _ l
      exact (zkT hlt hc fun j hj => hn j _ hj).symm
    · have hc : bigN (l.getD (k : Int).toNat zNd) = false := hb
      rw [zaR hlt] at hc
      (repeat (first | refine zae ?_ | refine zac ?_ | refine zab ?_ | refine zad ?_)); refine zaa hX zbN rfl ?_ ?_
      · exact zaT (by omega)
      exact ⟨k + 1, ⟨by omega, fun j hj hlt => by
        by_cases e : j = k
        · subst e; exact hc
        · exact hn j hj (by omega)⟩, by omega, ⟨rfl, rfl, rfl, zdA _, trivial⟩, trivial, rfl, rfl⟩
  · have hb : decide ((k : Int) < (l.length : Nat)) = false := hb
    have hb := of_decide_eq_false hb
    have : k = l.length := by omega
    subst this
    (repeat (first | refine zae ?_ | refine zac ?_ | refine zak ?_ | refine zad ?_ | refine zab ?_ | refine zaa hX zbN rfl trivial ?_ | refine zaa hX zbN rfl id ?_ | refine zaa hX zbN rfl ⟨id, id⟩ ?_))
    refine AWP.ret ⟨.inr rfl, zay rfl trivial rfl rfl ?_⟩
    show (-1 : Int) = idx _ l
    exact (zkU fun j hj => hn j hj hj).symm
def cAnyR : Ctr := { args := [.slice nd, .lit], pre := fun x => [x.2.1 = litN], res := .bool, own := none, out := fun x => List.any x.1 bigN }
def kAnyR : Kn := { gmK with C := [(118, cIdxR)] }
theorem zeV : KnOk Tryz.prog gmH kAnyR := zaj.with (.cons zqQ .nil)
theorem zrz : CtrOk Tryz.prog gmH 71 cAnyR := by
  refine zaq (K := kAnyR) zeV Tryz.func71 rfl rfl Tryz.call71 rfl (by decide) (by intro h; cases h) ?_
  rintro w0 X hX ⟨(l : List Nd), (f : Value), _⟩ hp
  obtain rfl : f = litN := hp
  change AWP _ _ _ _ _ ⟨[(0, ⟨.slice nd, l⟩), (1, ⟨.lit, litN⟩)], [], 0⟩ _
  (repeat (first | refine zae ?_ | refine zac ?_ | refine zak ?_ | refine zad ?_ | refine zab ?_ | refine zaa hX zeV rfl trivial ?_ | refine zaa hX zeV rfl id ?_ | refine zaa hX zeV rfl ⟨id, id⟩ ?_))
  (repeat (first | refine zae ?_ | refine zac ?_ | refine zab ?_ | refine zad ?_)); refine zaa hX zeV rfl ?_ ?_
  · exact rfl
  refine AWP.ret ⟨.inr rfl, zay rfl trivial rfl rfl ?_⟩
  exact znB _ l
def cIdxU : Ctr := { args := [.slice i64, .lit], pre := fun x => [x.2.1 = litU], res := i64, own := none, out := fun x => idx not1 x.1 }
def kIdxU : Kn := { gmK with C := [(124, cNot1)] }
theorem zbM : KnOk Tryz.prog gmH kIdxU := zaj.with (.cons zqy .nil)
theorem zqP : CtrOk Tryz.prog gmH 157 cIdxU := by
  refine zaq (K := kIdxU) zbM Tryz.func157 rfl rfl Tryz.call157 rfl (by decide) (by intro h; cases h) ?_
  rintro w0 X hX ⟨(l : List Int), (f : Value), _⟩ hp
  obtain rfl : f = litU := hp
  change AWP _ _ _ _ _ ⟨[(0, ⟨.slice i64, l⟩), (1, ⟨.lit, litU⟩)], [], 0⟩ _
  refine AWP.len 0 rfl fun hl => ?_
  unfold maxLen at hl
  (repeat (first | refine zae ?_ | refine zac ?_ | refine zak ?_ | refine zad ?_ | refine zab ?_ | refine zaa hX zbM rfl trivial ?_ | refine zaa hX zbM rfl id ?_ | refine zaa hX zbM rfl ⟨id, id⟩ ?_))
  refine AWP.loop (ι := Nat) (fun k => ⟨[(0, ⟨.slice i64, l⟩), (1, ⟨.lit, litU⟩), (7, ⟨i64, ((l.length : Nat) : Int)⟩), (8, ⟨i64, (k : Int)⟩)], [], 0⟩) (fun k => k ≤ l.length ∧ ∀ j (hj : j < l.length), j < k -> not1 l[j] = false) (fun k => l.length - k) 0 ⟨by omega, by omega⟩ ⟨⟨rfl, rfl, rfl, rfl, trivial⟩, trivial, rfl, rfl⟩ ?_
  rintro k ⟨hk, hn⟩
  (repeat (first | refine zae ?_ | refine zac ?_ | refine zab ?_ | refine zad ?_)); refine zaa hX zbM rfl ?_ ?_
  · trivial
  refine zae ?_
  refine zai rfl (fun hb => ?_) (fun hb => ?_)
  · have hb : decide ((k : Int) < (l.length : Nat)) = true := hb
    have hb := of_decide_eq_true hb
    have hlt : k < l.length := by omega
    have n0 : (0 : Int) ≤ (k : Int) := by omega
    (repeat (first | refine zae ?_ | refine zac ?_ | refine zab ?_ | refine zad ?_)); refine zaa hX zbM rfl ?_ ?_
    · trivial
    (repeat (first | refine zae ?_ | refine zac ?_ | refine zab ?_ | refine zad ?_)); refine zaa hX zbM rfl ?_ ?_
    · exact ⟨n0, hb⟩
    refine zai rfl (fun hb => ?_) (fun hb => ?_)
    · have hc : not1 (l.getD (k : Int).toNat (0 : Int)) = true := hb
      rw [zaR hlt] at hc
      (repeat (first | refine zae ?_ | refine zac ?_ | refine zak ?_ | refine zad ?_ | refine zab ?_ | refine zaa hX zbM rfl trivial ?_ | refine zaa hX zbM rfl id ?_ | refine zaa hX zbM rfl ⟨id, id⟩ ?_))
      refine AWP.ret ⟨.inr rfl, zay rfl trivial rfl rfl ?_⟩
      show (k : Int) = idx _ l
      exact (zkT hlt hc fun j hj => hn j _ hj).symm
    · have hc : not1 (l.getD (k : Int).toNat (0 : Int)) = false := hb
      rw [zaR hlt] at hc
      (repeat (first | refine zae ?_ | refine zac ?_ | refine zab ?_ | refine zad ?_)); refine zaa hX zbM rfl ?_ ?_
      · exact zaT (by omega)
      exact ⟨k + 1, ⟨by omega, fun j hj hlt => by
        by_cases e : j = k
        · subst e; exact hc
        · exact hn j hj (by omega)⟩, by omega, ⟨rfl, rfl, rfl, zdA _, trivial⟩, trivial, rfl, rfl⟩
  · have hb : decide ((k : Int) < (l.length : Nat)) = false := hb
    have hb := of_decide_eq_false hb
    have : k = l.length := by omega
    subst this
    (repeat (first | refine zae ?_ | refine zac ?_ | refine zak ?_ | refine zad ?_ | refine zab ?_ | refine zaa hX zbM rfl trivial ?_ | refine zaa hX zbM rfl id ?_ | refine zaa hX zbM rfl ⟨id, id⟩ ?_))
    refine AWP.ret ⟨.inr rfl, zay rfl trivial rfl rfl ?_⟩
    show (-1 : Int) = idx _ l
    exact (zkU fun j hj => hn j hj hj).symm
def cAnyU : Ctr := { args := [.slice i64, .lit], pre := fun x => [x.2.1 = litU], res := .bool, own := none, out := fun x => List.any x.1 not1 }
def kAnyU : Kn := { gmK with C := [(157, cIdxU)] }
theorem zeU : KnOk Tryz.prog gmH kAnyU := zaj.with (.cons zqP .nil)
theorem zry : CtrOk Tryz.prog gmH 123 cAnyU := by
  refine zaq (K := kAnyU) zeU Tryz.func123 rfl rfl Tryz.call123 rfl (by decide) (by intro h; cases h) ?_
  rintro w0 X hX ⟨(l : List Int), (f : Value), _⟩ hp
  obtain rfl : f = litU := hp
  change AWP _ _ _ _ _ ⟨[(0, ⟨.slice i64, l⟩), (1, ⟨.lit, litU⟩)], [], 0⟩ _
  (repeat (first | refine zae ?_ | refine zac ?_ | refine zak ?_ | refine zad ?_ | refine zab ?_ | refine zaa hX zeU rfl trivial ?_ | refine zaa hX zeU rfl id ?_ | refine zaa hX zeU rfl ⟨id, id⟩ ?_))
  (repeat (first | refine zae ?_ | refine zac ?_ | refine zab ?_ | refine zad ?_)); refine zaa hX zeU rfl ?_ ?_
  · exact rfl
  refine AWP.ret ⟨.inr rfl, zay rfl trivial rfl rfl ?_⟩
  exact znB _ l
def zh1 (b : Int × Int × Unit) : Bool := b.1 == 0 && b.2.1 == 0
def zhc (l : List Int) (b : Int × Int × Unit) (i : Nat) : Bool := !inB (l.getD i 0) b.1 b.2.1 || (decide (0 < i) && decide (l.getD i 0 ≤ l.getD (i - 1) 0)) || (l.getD i 0 == 0 && decide (b.1 < 0))
def za3 (l : List Int) (b : Int × Int × Unit) : Bool := bif zh1 b then ((l.length : Nat) : Int) == 0 else (List.range l.length).all (fun i => !zhc l b i) && decide (((l.length : Nat) : Int) > 0)
theorem zkJ (b : Int × Int × Unit) : eqb lims b (0, 0, ()) = zh1 b := by
  obtain ⟨x, y, ⟨⟩⟩ := b
  unfold zh1
  rw [Bool.eq_iff_iff, zbc, Bool.and_eq_true, beq_iff_eq, beq_iff_eq]
  exact ⟨fun h => ⟨congrArg (fun z => z.1) h, congrArg (fun z => z.2.1) h⟩, fun ⟨h1, h2⟩ => by
    have h1 : x = 0 := h1
    have h2 : y = 0 := h2
    rw [h1, h2]⟩
def zn4 : Ctr := { args := [ints, lims], pre := fun _ => [], res := .bool, own := none, out := fun x => za3 x.1 x.2.1 }
def kVl : Kn := { gmK with C := [(119, zbd)] }
theorem zaS : KnOk Tryz.prog gmH kVl := zaj.with (.cons ziv .nil)
theorem znd : CtrOk Tryz.prog gmH 121 zn4 := by
  refine zaq (K := kVl) zaS Tryz.func121 rfl rfl Tryz.call121 rfl (by decide) (by intro h; cases h) ?_
  rintro w0 X hX ⟨(l : List Int), (b : Int × Int × Unit), _⟩ hp
  change AWP _ _ _ _ _ ⟨[(0, ⟨ints, l⟩), (1, ⟨lims, b⟩)], [], 0⟩ _
  refine AWP.len 0 rfl fun hl => ?_
  unfold maxLen at hl
  refine zae ?_
  (repeat (first | refine zae ?_ | refine zac ?_ | refine zab ?_ | refine zad ?_)); refine zaa hX zaS rfl ?_ ?_
  · trivial
  (repeat (first | refine zae ?_ | refine zac ?_ | refine zab ?_ | refine zad ?_)); refine zaa hX zaS rfl ?_ ?_
  · trivial
  refine zai rfl (fun hb => ?_) (fun hb => ?_)
  · have hb : zh1 b = true := by rw [<- zkJ]; exact hb
    (repeat (first | refine zae ?_ | refine zac ?_ | refine zak ?_ | refine zad ?_ | refine zab ?_ | refine zaa hX zaS rfl trivial ?_ | refine zaa hX zaS rfl id ?_ | refine zaa hX zaS rfl ⟨id, id⟩ ?_))
    refine AWP.ret ⟨.inr rfl, zay rfl trivial rfl rfl ?_⟩
    show _ = za3 l b
    unfold za3
    rw [hb]
    rfl
  have hb : zh1 b = false := by rw [<- zkJ]; exact hb
  (repeat (first | refine zae ?_ | refine zac ?_ | refine zak ?_ | refine zad ?_ | refine zab ?_ | refine zaa hX zaS rfl trivial ?_ | refine zaa hX zaS rfl id ?_ | refine zaa hX zaS rfl ⟨id, id⟩ ?_))
  refine AWP.loop (ι := Nat) (fun k => ⟨[(0, ⟨ints, l⟩), (3, ⟨.optr lims, ⟨0, lims, .here⟩⟩), (13, ⟨ints, l⟩), (14, ⟨i64, ((l.length : Nat) : Int)⟩), (15, ⟨i64, (k : Int)⟩)], [(0, some (.box lims b))], 1⟩) (fun k => k ≤ l.length ∧ ∀ j, j < k -> zhc l b j = false) (fun k => l.length - k) 0 ⟨by omega, by omega⟩ ⟨⟨rfl, rfl, rfl, rfl, rfl, trivial⟩, ⟨rfl, trivial⟩, rfl, rfl⟩ ?_
  rintro k ⟨hk, hn⟩
  (repeat (first | refine zae ?_ | refine zac ?_ | refine zab ?_ | refine zad ?_)); refine zaa hX zaS rfl ?_ ?_
  · trivial
  refine zae ?_
  refine zai rfl (fun hb => ?_) (fun hb => ?_)
  · have hb : decide ((k : Int) < (l.length : Nat)) = true := hb
    have hb := of_decide_eq_true hb
    have hlt : k < l.length := by omega
    have n0 : (0 : Int) ≤ (k : Int) := by omega
    (repeat (first | refine zae ?_ | refine zac ?_ | refine zab ?_ | refine zad ?_)); refine zaa hX zaS rfl ?_ ?_
    · exact ⟨n0, hb⟩
    (repeat (first | refine zae ?_ | refine zac ?_ | refine zab ?_ | refine zad ?_)); refine zaa hX zaS rfl ?_ ?_
    · have i1 : inR .i64 ((k : Int) - 1) := zat (by omega) (by omega)
      have i2 : (k : Int) - 1 < (l.length : Nat) := by omega
      have i3 : decide ((k : Int) > 0) = true -> 0 ≤ (k : Int) - 1 := fun h => by have := of_decide_eq_true h; omega
      cases zbd.out (l.getD ((k : Int)).toNat (za2 i64), b.fst, b.snd.fst, ()) <;> cases hD : decide ((k : Int) > 0) <;> cases (l.getD ((k : Int)).toNat (za2 i64) == 0) <;> cases decide (l.getD ((k : Int)).toNat (za2 i64) ≤ l.getD ((k : Int) - 1).toNat (za2 i64))
      all_goals
        repeat' (first | exact trivial | assumption | exact i3 hD | rfl | (intro h; exact absurd h Bool.false_ne_true) | (refine ⟨?_, ?_⟩) | (intro _))
    have hq : decide ((k : Int) > 0) = decide (0 < k) := by rw [Bool.eq_iff_iff, decide_eq_true_iff, decide_eq_true_iff]; omega
    have hq' : ((k : Int) - 1).toNat = k - 1 := by omega
    refine zai rfl (fun hb => ?_) (fun hb => ?_)
    · have hc : zhc l b k = true := by
        rw [<- hb]
        unfold zhc
        rw [<- hq, <- hq']
        show (!zbd.out (l.getD ((k : Int)).toNat (za2 i64), b.fst, b.snd.fst, ()) || (decide ((k : Int) > 0) && decide (l.getD ((k : Int)).toNat (za2 i64) ≤ l.getD ((k : Int) - 1).toNat (za2 i64))) || ((l.getD ((k : Int)).toNat (za2 i64) == 0) && decide (b.1 < 0))) = _
        cases zbd.out (l.getD ((k : Int)).toNat (za2 i64), b.fst, b.snd.fst, ()) <;> cases hD : decide ((k : Int) > 0) <;> cases (l.getD ((k : Int)).toNat (za2 i64) == 0) <;> cases decide (l.getD ((k : Int)).toNat (za2 i64) ≤ l.getD ((k : Int) - 1).toNat (za2 i64)) <;> cases decide (b.1 < 0) <;> rfl
      (repeat (first | refine zae ?_ | refine zac ?_ | refine zak ?_ | refine zad ?_ | refine zab ?_ | refine zaa hX zaS rfl trivial ?_ | refine zaa hX zaS rfl id ?_ | refine zaa hX zaS rfl ⟨id, id⟩ ?_))
      refine AWP.ret ⟨.inr rfl, zay rfl trivial rfl rfl ?_⟩
      show false = za3 l b
      unfold za3
      rw [‹zh1 b = false›, show (List.range l.length).all (fun i => !zhc l b i) = false from ?_]
      · rfl
      · rw [Bool.eq_false_iff]
        intro ha
        have := List.all_eq_true.1 ha k (List.mem_range.2 hlt)
        rw [hc] at this
        cases this
    · have hc : zhc l b k = false := by
        rw [<- hb]
        unfold zhc
        rw [<- hq, <- hq']
        show (!zbd.out (l.getD ((k : Int)).toNat (za2 i64), b.fst, b.snd.fst, ()) || (decide ((k : Int) > 0) && decide (l.getD ((k : Int)).toNat (za2 i64) ≤ l.getD ((k : Int) - 1).toNat (za2 i64))) || ((l.getD ((k : Int)).toNat (za2 i64) == 0) && decide (b.1 < 0))) = _
        cases zbd.out (l.getD ((k : Int)).toNat (za2 i64), b.fst, b.snd.fst, ()) <;> cases hD : decide ((k : Int) > 0) <;> cases (l.getD ((k : Int)).toNat (za2 i64) == 0) <;> cases decide (l.getD ((k : Int)).toNat (za2 i64) ≤ l.getD ((k : Int) - 1).toNat (za2 i64)) <;> cases decide (b.1 < 0) <;> rfl
      (repeat (first | refine zae ?_ | refine zac ?_ | refine zab ?_ | refine zad ?_)); refine zaa hX zaS rfl ?_ ?_
      · exact zaT (by omega)
      exact ⟨k + 1, ⟨by omega, fun j hj => by
        by_cases e : j = k
        · subst e; exact hc
        · exact hn j (by omega)⟩, by omega, ⟨rfl, rfl, rfl, rfl, zdA _, trivial⟩, ⟨rfl, trivial⟩, rfl, rfl⟩
  · have hb : decide ((k : Int) < (l.length : Nat)) = false := hb
    have hb := of_decide_eq_false hb
    have : k = l.length := by omega
    subst this
    (repeat (first | refine zae ?_ | refine zac ?_ | refine zak ?_ | refine zad ?_ | refine zab ?_ | refine zaa hX zaS rfl trivial ?_ | refine zaa hX zaS rfl id ?_ | refine zaa hX zaS rfl ⟨id, id⟩ ?_))
    refine AWP.ret ⟨.inr rfl, zay rfl trivial rfl rfl ?_⟩
    show _ = za3 l b
    unfold za3
    rw [‹zh1 b = false›, show (List.range l.length).all (fun i => !zhc l b i) = true from List.all_eq_true.2 fun i hi => by rw [hn i (List.mem_range.1 hi)]; rfl]
    rfl
def zcE (n : Nd) : Bool :=
  bif n.1 == 1 then bif inB n.2.2.2.2.1 1 1099511627776 then inB n.2.2.2.2.2.1 0 1099511627776 else false
  else bif n.1 == 2 then bif inB n.2.2.2.2.1 1 400 then inB n.2.2.2.2.2.1 0 (n.2.2.2.2.1 - 1) else false
  else bif n.1 == 7 then bif (bif (bif inB n.2.2.2.2.1 (-60) 60 then !(n.2.2.2.2.1 == 0) else false) then inB n.2.2.2.2.2.1 0 6 else false) then inB n.2.2.1 0 1 else false
  else bif n.1 == 11 then bif inB n.2.2.2.2.1 (-1099511627776) 1099511627776 then n.2.2.2.2.2.1 == 0 else false
  else bif (n.1 == 12) || (n.1 == 13) then bif inB n.2.2.2.2.1 0 1099511627776 then n.2.2.2.2.2.1 == 0 else false
  else bif n.1 == 16 then bif n.2.2.2.2.1 == 0 then inB n.2.2.2.2.2.1 0 1 else false
  else bif n.1 == 17 then bif inB n.2.2.2.2.1 1 400 then n.2.2.2.2.2.1 == 0 else false
  else bif n.2.2.2.2.1 == 0 then n.2.2.2.2.2.1 == 0 else false
def cNumb : Ctr := { args := [nd], pre := fun _ => [], res := .bool, own := none, out := fun x => zcE x.1 }
theorem zqw : CtrOk Tryz.prog gmH 122 cNumb := by
  refine zaq (K := kVl) zaS Tryz.func122 rfl rfl Tryz.call122 rfl (by decide) (by intro h; cases h) ?_
  rintro w0 X hX ⟨(n : Nd), _⟩ hp
  change AWP _ _ _ _ _ ⟨[(0, ⟨nd, n⟩)], [], 0⟩ _
  refine zae ?_
  (repeat (first | refine zae ?_ | refine zac ?_ | refine zab ?_ | refine zad ?_)); refine zaa hX zaS rfl ?_ ?_
  · trivial
  (repeat (first | refine zae ?_ | refine zac ?_ | refine zab ?_ | refine zad ?_)); refine zaa hX zaS rfl ?_ ?_
  · trivial
  (repeat (first | refine zae ?_ | refine zac ?_ | refine zab ?_ | refine zad ?_)); refine zaa hX zaS rfl ?_ ?_
  · trivial
  refine zai rfl (fun h1 => ?_) (fun h1 => ?_)
  · have h1 : (n.1 == 1) = true := h1
    (repeat (first | refine zae ?_ | refine zac ?_ | refine zab ?_ | refine zad ?_)); refine zaa hX zaS rfl ?_ ?_
    · have i0 : zbd.out (n.2.2.2.2.1, (1 : Int), (400 : Int), ()) = true -> inR .i64 (n.2.2.2.2.1 - 1) := fun h => by
        have h : inB n.2.2.2.2.1 1 400 = true := h
        unfold inB at h
        rw [Bool.and_eq_true, decide_eq_true_iff, decide_eq_true_iff] at h
        exact zat (by omega) (by omega)
      cases hA : zbd.out (n.2.2.2.2.1, (1 : Int), (1099511627776 : Int), ())
      all_goals
        repeat' (first | exact trivial | assumption | rfl | exact i0 rfl | exact i0 hA | (intro h; exact absurd h Bool.false_ne_true) | (refine ⟨?_, ?_⟩) | (intro _))
    refine AWP.ret ⟨.inr rfl, zay rfl trivial rfl rfl ?_⟩
    show _ = zcE n
    simp only [zcE, h1, cond_true, cond_false, Bool.or_true, Bool.true_or, Bool.or_false, Bool.false_or]
    all_goals (first | rfl | (simp; done))
  have h1 : (n.1 == 1) = false := h1
  (repeat (first | refine zae ?_ | refine zac ?_ | refine zab ?_ | refine zad ?_)); refine zaa hX zaS rfl ?_ ?_
  · trivial
  refine zai rfl (fun h2 => ?_) (fun h2 => ?_)
  · have h2 : (n.1 == 2) = true := h2
    (repeat (first | refine zae ?_ | refine zac ?_ | refine zab ?_ | refine zad ?_)); refine zaa hX zaS rfl ?_ ?_
    · have i0 : zbd.out (n.2.2.2.2.1, (1 : Int), (400 : Int), ()) = true -> inR .i64 (n.2.2.2.2.1 - 1) := fun h => by
        have h : inB n.2.2.2.2.1 1 400 = true := h
        unfold inB at h
        rw [Bool.and_eq_true, decide_eq_true_iff, decide_eq_true_iff] at h
        exact zat (by omega) (by omega)
      cases hA : zbd.out (n.2.2.2.2.1, (1 : Int), (400 : Int), ())
      all_goals
        repeat' (first | exact trivial | assumption | rfl | exact i0 rfl | exact i0 hA | (intro h; exact absurd h Bool.false_ne_true) | (refine ⟨?_, ?_⟩) | (intro _))
    refine AWP.ret ⟨.inr rfl, zay rfl trivial rfl rfl ?_⟩
    show _ = zcE n
    simp only [zcE, h1, h2, cond_true, cond_false, Bool.or_true, Bool.true_or, Bool.or_false, Bool.false_or]
    all_goals (first | rfl | (simp; done))
  have h2 : (n.1 == 2) = false := h2
  (repeat (first | refine zae ?_ | refine zac ?_ | refine zab ?_ | refine zad ?_)); refine zaa hX zaS rfl ?_ ?_
  · trivial
  refine zai rfl (fun h7 => ?_) (fun h7 => ?_)
  · have h7 : (n.1 == 7) = true := h7
    (repeat (first | refine zae ?_ | refine zac ?_ | refine zab ?_ | refine zad ?_)); refine zaa hX zaS rfl ?_ ?_
    · have i0 : zbd.out (n.2.2.2.2.1, (1 : Int), (400 : Int), ()) = true -> inR .i64 (n.2.2.2.2.1 - 1) := fun h => by
        have h : inB n.2.2.2.2.1 1 400 = true := h
        unfold inB at h
        rw [Bool.and_eq_true, decide_eq_true_iff, decide_eq_true_iff] at h
        exact zat (by omega) (by omega)
      cases hA : zbd.out (n.2.2.2.2.1, (-60 : Int), (60 : Int), ()) <;> cases (n.2.2.2.2.1 == 0) <;> cases zbd.out (n.2.2.2.2.2.1, (0 : Int), (6 : Int), ())
      all_goals
        repeat' (first | exact trivial | assumption | rfl | exact i0 rfl | exact i0 hA | (intro h; exact absurd h Bool.false_ne_true) | (refine ⟨?_, ?_⟩) | (intro _))
    refine AWP.ret ⟨.inr rfl, zay rfl trivial rfl rfl ?_⟩
    show _ = zcE n
    simp only [zcE, h1, h2, h7, cond_true, cond_false, Bool.or_true, Bool.true_or, Bool.or_false, Bool.false_or]
    all_goals (first | rfl | (simp; done))
  have h7 : (n.1 == 7) = false := h7
  (repeat (first | refine zae ?_ | refine zac ?_ | refine zab ?_ | refine zad ?_)); refine zaa hX zaS rfl ?_ ?_
  · trivial
  refine zai rfl (fun h11 => ?_) (fun h11 => ?_)
  · have h11 : (n.1 == 11) = true := h11
    (repeat (first | refine zae ?_ | refine zac ?_ | refine zab ?_ | refine zad ?_)); refine zaa hX zaS rfl ?_ ?_
    · have i0 : zbd.out (n.2.2.2.2.1, (1 : Int), (400 : Int), ()) = true -> inR .i64 (n.2.2.2.2.1 - 1) := fun h => by
        have h : inB n.2.2.2.2.1 1 400 = true := h
        unfold inB at h
        rw [Bool.and_eq_true, decide_eq_true_iff, decide_eq_true_iff] at h
        exact zat (by omega) (by omega)
      cases hA : zbd.out (n.2.2.2.2.1, (-1099511627776 : Int), (1099511627776 : Int), ())
      all_goals
        repeat' (first | exact trivial | assumption | rfl | exact i0 rfl | exact i0 hA | (intro h; exact absurd h Bool.false_ne_true) | (refine ⟨?_, ?_⟩) | (intro _))
    refine AWP.ret ⟨.inr rfl, zay rfl trivial rfl rfl ?_⟩
    show _ = zcE n
    simp only [zcE, h1, h2, h7, h11, cond_true, cond_false, Bool.or_true, Bool.true_or, Bool.or_false, Bool.false_or]
    all_goals (first | rfl | (simp; done))
  have h11 : (n.1 == 11) = false := h11
  (repeat (first | refine zae ?_ | refine zac ?_ | refine zab ?_ | refine zad ?_)); refine zaa hX zaS rfl ?_ ?_
  · trivial
  refine AWP.viaQ (σ' := ⟨[(1, ⟨.optr nd, ⟨0, nd, .here⟩⟩), (4, ⟨i64, n.1⟩), (58, ⟨.bool, (n.1 == 12) || (n.1 == 13)⟩)], [(0, some (.box nd n))], 1⟩) ?_ ?_
  · refine zai rfl (fun h => ?_) (fun h => ?_)
    · have h : (n.1 == 12) = true := h
      refine zac ?_
      rw [h]
      exact ⟨⟨rfl, rfl, rfl, trivial⟩, ⟨rfl, trivial⟩, rfl, rfl⟩
    · have h : (n.1 == 12) = false := h
      (repeat (first | refine zae ?_ | refine zac ?_ | refine zab ?_ | refine zad ?_)); refine zaa hX zaS rfl ?_ ?_
      · trivial
      rw [h]
      exact ⟨⟨rfl, rfl, rfl, trivial⟩, ⟨rfl, trivial⟩, rfl, rfl⟩
  refine zai rfl (fun h12 => ?_) (fun h12 => ?_)
  · have h12 : ((n.1 == 12) || (n.1 == 13)) = true := h12
    (repeat (first | refine zae ?_ | refine zac ?_ | refine zab ?_ | refine zad ?_)); refine zaa hX zaS rfl ?_ ?_
    · have i0 : zbd.out (n.2.2.2.2.1, (1 : Int), (400 : Int), ()) = true -> inR .i64 (n.2.2.2.2.1 - 1) := fun h => by
        have h : inB n.2.2.2.2.1 1 400 = true := h
        unfold inB at h
        rw [Bool.and_eq_true, decide_eq_true_iff, decide_eq_true_iff] at h
        exact zat (by omega) (by omega)
      cases hA : zbd.out (n.2.2.2.2.1, (0 : Int), (1099511627776 : Int), ())
      all_goals
        repeat' (first | exact trivial | assumption | rfl | exact i0 rfl | exact i0 hA | (intro h; exact absurd h Bool.false_ne_true) | (refine ⟨?_, ?_⟩) | (intro _))
    refine AWP.ret ⟨.inr rfl, zay rfl trivial rfl rfl ?_⟩
    show _ = zcE n
    simp only [zcE, h1, h2, h7, h11, h12, cond_true, cond_false, Bool.or_true, Bool.true_or, Bool.or_false, Bool.false_or]
    all_goals (first | rfl | (simp; done))
  have h12 : ((n.1 == 12) || (n.1 == 13)) = false := h12
  (repeat (first | refine zae ?_ | refine zac ?_ | refine zab ?_ | refine zad ?_)); refine zaa hX zaS rfl ?_ ?_
  · trivial
  refine zai rfl (fun h16 => ?_) (fun h16 => ?_)
  · have h16 : (n.1 == 16) = true := h16
    (repeat (first | refine zae ?_ | refine zac ?_ | refine zab ?_ | refine zad ?_)); refine zaa hX zaS rfl ?_ ?_
    · have i0 : zbd.out (n.2.2.2.2.1, (1 : Int), (400 : Int), ()) = true -> inR .i64 (n.2.2.2.2.1 - 1) := fun h => by
        have h : inB n.2.2.2.2.1 1 400 = true := h
        unfold inB at h
        rw [Bool.and_eq_true, decide_eq_true_iff, decide_eq_true_iff] at h
        exact zat (by omega) (by omega)
      cases hA : (n.2.2.2.2.1 == 0)
      all_goals
        repeat' (first | exact trivial | assumption | rfl | exact i0 rfl | exact i0 hA | (intro h; exact absurd h Bool.false_ne_true) | (refine ⟨?_, ?_⟩) | (intro _))
    refine AWP.ret ⟨.inr rfl, zay rfl trivial rfl rfl ?_⟩
    show _ = zcE n
    simp only [zcE, h1, h2, h7, h11, h12, h16, cond_true, cond_false, Bool.or_true, Bool.true_or, Bool.or_false, Bool.false_or]
    all_goals (first | rfl | (simp; done))
  have h16 : (n.1 == 16) = false := h16
  (repeat (first | refine zae ?_ | refine zac ?_ | refine zab ?_ | refine zad ?_)); refine zaa hX zaS rfl ?_ ?_
  · trivial
  refine zai rfl (fun h17 => ?_) (fun h17 => ?_)
  · have h17 : (n.1 == 17) = true := h17
    (repeat (first | refine zae ?_ | refine zac ?_ | refine zab ?_ | refine zad ?_)); refine zaa hX zaS rfl ?_ ?_
    · have i0 : zbd.out (n.2.2.2.2.1, (1 : Int), (400 : Int), ()) = true -> inR .i64 (n.2.2.2.2.1 - 1) := fun h => by
        have h : inB n.2.2.2.2.1 1 400 = true := h
        unfold inB at h
        rw [Bool.and_eq_true, decide_eq_true_iff, decide_eq_true_iff] at h
        exact zat (by omega) (by omega)
      cases hA : zbd.out (n.2.2.2.2.1, (1 : Int), (400 : Int), ())
      all_goals
        repeat' (first | exact trivial | assumption | rfl | exact i0 rfl | exact i0 hA | (intro h; exact absurd h Bool.false_ne_true) | (refine ⟨?_, ?_⟩) | (intro _))
    refine AWP.ret ⟨.inr rfl, zay rfl trivial rfl rfl ?_⟩
    show _ = zcE n
    simp only [zcE, h1, h2, h7, h11, h12, h16, h17, cond_true, cond_false, Bool.or_true, Bool.true_or, Bool.or_false, Bool.false_or]
    all_goals (first | rfl | (simp; done))
  have h17 : (n.1 == 17) = false := h17
  refine zac ?_
  (repeat (first | refine zae ?_ | refine zac ?_ | refine zab ?_ | refine zad ?_)); refine zaa hX zaS rfl ?_ ?_
  · have i0 : zbd.out (n.2.2.2.2.1, (1 : Int), (400 : Int), ()) = true -> inR .i64 (n.2.2.2.2.1 - 1) := fun h => by
      have h : inB n.2.2.2.2.1 1 400 = true := h
      unfold inB at h
      rw [Bool.and_eq_true, decide_eq_true_iff, decide_eq_true_iff] at h
      exact zat (by omega) (by omega)
    cases hA : (n.2.2.2.2.1 == 0)
    all_goals
      repeat' (first | exact trivial | assumption | rfl | exact i0 rfl | exact i0 hA | (intro h; exact absurd h Bool.false_ne_true) | (refine ⟨?_, ?_⟩) | (intro _))
  refine AWP.ret ⟨.inr rfl, zay rfl trivial rfl rfl ?_⟩
  show _ = zcE n
  simp only [zcE, h1, h2, h7, h11, h12, h16, h17, cond_true, cond_false, Bool.or_true, Bool.true_or, Bool.or_false, Bool.false_or]
  all_goals (first | rfl | (simp; done))
abbrev Shp := Int × Bool × (Int × Int × Unit) × Unit
def zcs : List Shp := [(0, false, (0, 0, ()), ()), (0, false, (0, 0, ()), ()), (0, true, (0, 0, ()), ()), (0, true, (1, 16, ()), ()), (0, true, (-40, 40, ()), ()), (0, false, (0, 6, ()), ()), (0, true, (1, 54, ()), ()), (0, true, (0, 0, ()), ()), (2, false, (0, 0, ()), ()), (2, false, (0, 0, ()), ()), (2, false, (0, 0, ()), ()), (1, false, (0, 0, ()), ()), (1, false, (0, 0, ()), ()), (1, false, (0, 0, ()), ()), (1, false, (0, 1099511627776, ()), ()), (1, false, (0, 1099511627776, ()), ()), (1, true, (-400, 400, ()), ()), (2, false, (0, 0, ()), ()), (0, false, (0, 0, ()), ())]
def zkk : Ctr := { args := [], pre := fun _ => [], res := .arr 19 shp, own := none, out := fun _ => zcs }
set_option maxHeartbeats 400000 in
theorem ziH : CtrOk Tryz.prog gmH 74 zkk := by
  refine zaq (K := gmK) zaj Tryz.func74 rfl rfl Tryz.call74 rfl (by decide) (by intro h; cases h) ?_
  rintro w0 X hX _ hp
  change AWP _ _ _ _ _ ⟨[], [], 0⟩ _
  refine zae ?_
  (repeat (first | refine zae ?_ | refine zac ?_ | refine zab ?_ | refine zad ?_)); refine zaa hX zaj rfl ?_ ?_
  · trivial
  (repeat (first | refine zae ?_ | refine zac ?_ | refine zab ?_ | refine zad ?_)); refine zaa hX zaj rfl ?_ ?_
  · trivial
  refine zan (σ' := ⟨[(0, ⟨.optr (.arr 19 shp), ⟨0, .arr 19 shp, .here⟩⟩)], [(0, some (.box (.arr 19 shp) zcs))], 1⟩) ⟨⟨by kernel_rfl, trivial⟩, ⟨by kernel_rfl, trivial⟩, rfl, rfl⟩ ?_
  exact AWP.ret ⟨.inr rfl, zay rfl trivial rfl rfl rfl⟩
set_option maxRecDepth 10000
abbrev Tk := Int × List UInt8 × Int
def tkOf (t : TokT) : Tk := (Tok.cls t, Tok.text t, Tok.n t)
def Toks (s : List UInt8) : Int -> List Tk -> Prop
  | o, [] => Tok.cls (zdF s o) = 0
  | o, a :: l => Tok.cls (zdF s o) ≠ 0 ∧ tkOf (zdF s o) = a ∧ Toks s (Tok.at (zdF s o) + Tok.size (zdF s o)) l
def Sq (s : List UInt8) (t : TokT) : List Tk -> Prop
  | [] => Tok.cls t = 0
  | a :: l => Tok.cls t ≠ 0 ∧ tkOf t = a ∧ Toks s (Tok.at t + Tok.size t) l
def tkIs (w : List UInt8) : List Tk -> Bool
  | [] => false
  | a :: _ => ((a.1 == 1) || (a.1 == 4)) && decide (a.2.1 = w)
theorem okb {ε α β : Type} {e : Except ε α} {x : α} (h : e = .ok x) (f : α -> Except ε β) : (e >>= f) = f x := by
  subst h; rfl
section
variable {s : List UInt8}
theorem zjM {o : Int} {l : List Tk} (h : Toks s o l) : Sq s (zdF s o) l := by
  cases l with
  | nil => exact h
  | cons a l => exact h
theorem zg1 {st : GSt} {l : List Tk} (h : Sq s st.1 l) (w : List UInt8) : gIs st w = tkIs w l := by
  cases l with
  | nil =>
    have h : Tok.cls st.1 = 0 := h
    unfold gIs tkIs
    rw [h]; rfl
  | cons a l =>
    obtain ⟨_, h2, _⟩ := h
    unfold gIs tkIs
    rw [<- h2]; rfl
structure Got (s : List UInt8) (st : GSt) (k : Int) (l : List Tk) (st' : GSt) : Prop where
  ok : GOk s st'
  sq : Sq s st'.1 l
  n : st'.2 = st.2 + k
theorem Got.trans {a b c : GSt} {j k : Int} {l l' : List Tk} (h : Got s a j l b) (h' : Got s b k l' c) : Got s a (j + k) l' c := ⟨h'.ok, h'.sq, by rw [h'.n, h.n]; omega⟩
theorem Got.trans0 {a b c : GSt} {j : Int} {l l' : List Tk} (h : Got s a j l b) (h' : Got s b 0 l' c) : Got s a j l' c := ⟨h'.ok, h'.sq, by rw [h'.n, h.n]; omega⟩
theorem zoP {st : GSt} {a : Tk} {l : List Tk} (hg : GOk s st) (h : Sq s st.1 (a :: l)) : Got s st 0 l (gAdv s st) :=
  ⟨(zbV hg h.1).1, zjM h.2.2, by show st.2 = st.2 + 0; omega⟩
theorem zfW {st : GSt} {a : Tk} {l : List Tk} {w : List UInt8} (hg : GOk s st) (h : Sq s st.1 (a :: l)) (hw : tkIs w (a :: l) = true) : zaQ s st w = .ok (gAdv s st) ∧ Got s st 0 l (gAdv s st) := by
  refine ⟨?_, zoP hg h⟩
  unfold zaQ zaB
  rw [zg1 h, hw]; rfl
theorem zhV {st : GSt} {a : Tk} {l : List Tk} (hg : GOk s st) (h : Sq s st.1 (a :: l)) (hn : st.2 < 64) : zbH s st = .ok (gAdv s (st.1, st.2 + 1)) ∧ Got s st 1 l (gAdv s (st.1, st.2 + 1)) := by
  refine ⟨?_, ?_, ?_, rfl⟩
  · unfold zbH zaB
    rw [decide_eq_true hn]; rfl
  · exact (zbV (st := (st.1, st.2 + 1)) ⟨hg.1, by have := hg.2; constructor <;> simp only [] <;> omega⟩ h.1).1
  · exact zjM h.2.2
def tkW (w : List UInt8) : Tk := (1, w, 0)
def tkR (w : List UInt8) : Tk := (2, w, 0)
def tkN (n : Int) : Tk := (3, deI n, n)
def tkS (c : UInt8) : Tk := (4, [c], 0)
theorem zbi {st : GSt} {x lo hi : Int} {l : List Tk} (hg : GOk s st) (h : Sq s st.1 (tkN x :: l)) (h1 : lo ≤ x) (h2 : x ≤ hi) : zaI s st lo hi = .ok (x, gAdv s st) ∧ Got s st 0 l (gAdv s st) := by
  refine ⟨?_, zoP hg h⟩
  obtain ⟨_, e, _⟩ := h
  have e1 : Tok.cls st.1 = 3 := congrArg (fun a => a.1) e
  have e2 : Tok.n st.1 = x := congrArg (fun a => a.2.2) e
  unfold zaI zaB
  rw [e1, e2, decide_eq_true h1, decide_eq_true h2]; rfl
def Ris (lo hi : Int) (z : Bool) : Int -> List Int -> Prop
  | _, [] => True
  | last, x :: r => last < x ∧ lo ≤ x ∧ x ≤ hi ∧ (z = true ∨ x ≠ 0) ∧ Ris lo hi z x r
theorem zmW {lo hi : Int} {z : Bool} {l : List Tk} : ∀ (xs : List Int) (k : Nat) (acc : List Int) (st : GSt), xs.length < k -> (acc = [] -> xs ≠ []) -> acc.length + xs.length ≤ 64 -> Ris lo hi z (acc.getLast?.getD (lo - 1)) xs -> GOk s st -> Sq s st.1 (xs.map tkN ++ tkS 41 :: l) ->
    ∃ st', zcc s lo hi z k st acc = .ok (acc ++ xs, st') ∧ Got s st 0 (tkS 41 :: l) st'
  | _, 0, _, _, hk, _, _, _, _, _ => by omega
  | [], k + 1, acc, st, _, hne, _, _, hg, h => by
    refine ⟨st, ?_, hg, h, by omega⟩
    have hacc : acc ≠ [] := fun e => hne e rfl
    have hc : gIs st zcI = true := by rw [zg1 h]; rfl
    unfold zcc
    rw [hc, List.append_nil, if_pos (by cases acc with | nil => exact absurd rfl hacc | cons _ _ => rfl)]
  | x :: r, k + 1, acc, st, hk, hne, hlen, hr, hg, h => by
    obtain ⟨r1, r2, r3, r4, r5⟩ := hr
    simp only [List.length_cons] at hk hlen
    have h : Sq s st.1 (tkN x :: (r.map tkN ++ tkS 41 :: l)) := h
    obtain ⟨hn, hgot⟩ := zbi hg h r2 r3
    obtain ⟨_, e, _⟩ := id h
    have e1 : Tok.cls st.1 = 3 := congrArg (fun a => a.1) e
    have e2 : Tok.n st.1 = x := congrArg (fun a => a.2.2) e
    have hc : gIs st zcI = false := by rw [zg1 h]; rfl
    have hl : (acc ++ [x]).getLast?.getD (lo - 1) = x := by rw [List.getLast?_append]; rfl
    obtain ⟨st', h1, h2⟩ := zmW r k (acc ++ [x]) (gAdv s st) (by omega) (fun e => by simp at e) (by rw [List.length_append, List.length_singleton]; omega) (by rw [hl]; exact r5) hgot.ok hgot.sq
    refine ⟨st', ?_, hgot.trans0 h2⟩
    rw [List.append_assoc] at h1
    unfold zcc
    rw [hc, Bool.and_false, if_neg Bool.false_ne_true]
    have c1 : zaB st (Tok.cls st.1 == 3) 3 = .ok () := by rw [e1]; rfl
    have c2 : zaB st (decide (acc.length < 64)) 2 = .ok () := by rw [decide_eq_true (by omega)]; rfl
    have c3 : zaB st (decide (Tok.n st.1 > acc.getLast?.getD (lo - 1)) && (z || (Tok.n st.1 != 0))) 1 = .ok () := by
      rw [e2, decide_eq_true r1]
      have : (z || (x != 0)) = true := by
        rcases r4 with rfl | r4
        · rfl
        · rw [Bool.or_eq_true]; exact .inr (bne_iff_ne.2 r4)
      rw [this]; rfl
    refine (okb c1 _).trans ((okb c2 _).trans ((okb c3 _).trans ((okb hn _).trans ?_)))
    exact h1
def zcJ (l : List Int) : List Tk := tkS 40 :: (l.map tkN ++ [tkS 41])
theorem zgm {lo hi : Int} {z : Bool} {xs : List Int} {l : List Tk} {st : GSt} (hne : xs ≠ []) (hlen : xs.length ≤ 64) (hr : Ris lo hi z (lo - 1) xs) (hg : GOk s st) (h : Sq s st.1 (zcJ xs ++ l)) :
    ∃ st', zcX s st lo hi z = .ok (xs, st') ∧ Got s st 0 l st' := by
  have h : Sq s st.1 (tkS 40 :: (xs.map tkN ++ [tkS 41] ++ l)) := h
  obtain ⟨e1, g1⟩ := zfW (w := zez) hg h rfl
  obtain ⟨s2, e2, g2⟩ := zmW (lo := lo) (hi := hi) (z := z) (l := l) xs 66 [] (gAdv s st) (by omega) (fun _ => hne) (by simpa using hlen) hr g1.ok (by have := g1.sq; rwa [List.append_assoc] at this)
  obtain ⟨e3, g3⟩ := zfW (w := zcI) g2.ok g2.sq rfl
  refine ⟨gAdv s s2, ?_, (g1.trans0 g2).trans0 g3⟩
  unfold zcX
  exact (okb e1 _).trans ((okb e2 _).trans ((okb e3 _).trans rfl))
def zdE (n : Int) : Tk := tkW (if n = 1 then zdz else ziy)
theorem zmU {st : GSt} {x : Int} {l : List Tk} (hx : x = 0 ∨ x = 1) (hg : GOk s st) (h : Sq s st.1 (zdE x :: l)) : zdi s st = .ok (x, gAdv s st) ∧ Got s st 0 l (gAdv s st) := by
  refine ⟨?_, zoP hg h⟩
  have i1 := zg1 h ziy
  have i2 := zg1 h zdz
  obtain ⟨_, e, _⟩ := h
  have e1 : Tok.text st.1 = (zdE x).2.1 := congrArg (fun a => a.2.1) e
  unfold zdi zaB
  rw [i1, i2, e1]
  rcases hx with rfl | rfl <;> rfl
end
def zi4 (n : Nd) : List Tk :=
  if ndK n = 1 then [tkW ziz, tkN (ndN n), tkN (ndM n)]
  else if ndK n = 2 then [tkW zfB, tkN (ndC n), tkN (ndN n), tkN (ndM n)]
  else if ndK n = 3 then tkW zce :: tkN (ndC n) :: zcJ (ndI n)
  else if ndK n = 4 then tkW zaZ :: tkN (ndC n) :: zcJ (ndI n)
  else if ndK n = 5 then tkW zbh :: zcJ (ndI n)
  else if ndK n = 6 then tkW zc4 :: tkN (ndC n) :: zcJ (ndI n)
  else if ndK n = 7 then [tkW wNth, tkN (ndC n), tkN (ndN n), tkN (ndM n), zdE (ndL n)]
  else if ndK n = 18 then [tkR (ndS n)]
  else []
def zhK (b : List Tk) (n : Nd) : List Tk :=
  if ndK n = 11 then [tkW zey, tkN (ndN n)]
  else if ndK n = 12 then [tkW zhH, tkN (ndN n)]
  else if ndK n = 13 then [tkW zex, tkN (ndN n)]
  else if ndK n = 14 then tkW zeA :: zcJ (ndI n)
  else if ndK n = 15 then tkW zcf :: zcJ (ndI n)
  else if ndK n = 16 then tkW wPos :: tkN (ndC n) :: zdE (ndM n) :: zcJ (ndI n)
  else if ndK n = 17 then tkW zbQ :: tkN (ndN n) :: tkW wOf :: b
  else []
def Tr.root : Tr -> Nd
  | .leaf n => n
  | .un n _ => n
  | .bin n _ _ => n
def Tr.lev (t : Tr) : Int := levS (ndK t.root)
def parT (c : Bool) (l : List Tk) : List Tk := if c then l else tkS 40 :: (l ++ [tkS 41])
def Tr.toks : Tr -> List Tk
  | .leaf n => zi4 n
  | .un n a => parT (decide (a.lev ≥ 4)) a.toks ++ zhK [] n
  | .bin n a b => if ndK n = 17 then parT (decide (a.lev ≥ 4)) a.toks ++ zhK (parT (decide (b.lev ≥ 5)) b.toks) n
    else parT (decide (a.lev ≥ levS (ndK n))) a.toks ++ (tkW (opWd (levS (ndK n))) :: parT (decide (b.lev ≥ levS (ndK n) + 1)) b.toks)
def zdc (k : Int) : Shp := zcs.getD k.toNat (0, false, (0, 0, ()), ())
def zeg (n : Nd) : Bool := bif (zdc (ndK n)).2.1 then inB (ndC n) 0 2 else ndC n == 0
def zeO (w : List UInt8) : Bool := decide (w ≠ []) && decide (w.length ≤ 32) && (w.head?.all isLt && w.all isPt)
def zh0 (n : Nd) : Bool := bif ndK n == 18 then zeO (ndS n) else decide (ndS n = [])
def zbA (n : Nd) : Bool := inB (ndK n) 1 18 && decide ((ndI n).length ≤ 64) && (zeg n && (zh0 n && (za3 (ndI n) (zdc (ndK n)).2.2.1 && zcE n)))
def TrOk : Tr -> Prop
  | .leaf n => zbA n = true ∧ ¬ (8 ≤ ndK n ∧ ndK n ≤ 17) ∧ ndR n = 0 ∧ (ndK n ≠ 7 -> ndL n = 0)
  | .un n a => zbA n = true ∧ (11 ≤ ndK n ∧ ndK n ≤ 16) ∧ (ndL n = 0 ∧ ndR n = 0) ∧ TrOk a
  | .bin n a b => zbA n = true ∧ ((8 ≤ ndK n ∧ ndK n ≤ 10) ∨ ndK n = 17) ∧ (ndL n = 0 ∧ ndR n = 0) ∧ TrOk a ∧ TrOk b
theorem zaJ {n lo hi : Int} : inB n lo hi = true ↔ lo ≤ n ∧ n ≤ hi := by
  unfold inB; rw [Bool.and_eq_true, decide_eq_true_iff, decide_eq_true_iff]
theorem zaF {n : Nd} (h : zbA n = true) : (1 ≤ ndK n ∧ ndK n ≤ 18) ∧ (ndI n).length ≤ 64 ∧ zeg n = true ∧ zh0 n = true ∧ za3 (ndI n) (zdc (ndK n)).2.2.1 = true ∧ zcE n = true := by
  unfold zbA at h
  simp only [Bool.and_eq_true, zaJ, decide_eq_true_iff] at h
  exact ⟨h.1.1, h.1.2, h.2.1, h.2.2.1, h.2.2.2.1, h.2.2.2.2⟩
theorem ris_of {l : List Int} {lo hi : Int} (h : ∀ i, i < l.length -> zhc l (lo, hi, ()) i = false) : Ris lo hi (decide (¬ lo < 0)) (lo - 1) l := by
  have key : ∀ (r p : List Int) (last : Int), l = p ++ r -> (p ≠ [] -> last = l.getD (p.length - 1) 0) -> (p = [] -> last = lo - 1) -> Ris lo hi (decide (¬ lo < 0)) last r := by
    intro r
    induction r with
    | nil => intro p last _ _ _; trivial
    | cons x r ih =>
      intro p last hl hp hp0
      have hlen : p.length < l.length := by rw [hl, List.length_append, List.length_cons]; omega
      have hx : l.getD p.length 0 = x := by
        rw [hl, List.getD_eq_getElem?_getD, List.getElem?_append_right (Nat.le_refl _), Nat.sub_self]; rfl
      have hb := h p.length hlen
      unfold zhc at hb
      rw [hx] at hb
      simp only [Bool.or_eq_false_iff, Bool.not_eq_false', zaJ, Bool.and_eq_false_iff, decide_eq_false_iff_not, beq_eq_false_iff_ne] at hb
      obtain ⟨⟨⟨b1, b2⟩, b3⟩, b4⟩ := hb
      refine ⟨?_, b1, b2, ?_, ih (p ++ [x]) x (by rw [hl]; simp) (fun _ => ?_) (fun e => by simp at e)⟩
      · cases p with
        | nil => rw [hp0 rfl]; omega
        | cons y p =>
          rw [hp (by simp)]
          rcases b3 with b3 | b3
          · exact absurd (by simp : 0 < (y :: p).length) b3
          · omega
      · rcases b4 with b4 | b4
        · exact .inr b4
        · exact .inl (decide_eq_true b4)
      · rw [show (p ++ [x]).length - 1 = p.length by simp, hx]
  exact key l [] (lo - 1) rfl (fun h => absurd rfl h) fun _ => rfl
theorem zeq {l : List Int} {lo hi : Int} (h0 : ¬ (lo = 0 ∧ hi = 0)) (h : za3 l (lo, hi, ()) = true) : l ≠ [] ∧ Ris lo hi (decide (¬ lo < 0)) (lo - 1) l := by
  have hz : zh1 (lo, hi, ()) = false := by
    rw [Bool.eq_false_iff]
    intro e
    unfold zh1 at e
    rw [Bool.and_eq_true, beq_iff_eq, beq_iff_eq] at e
    exact h0 e
  unfold za3 at h
  rw [hz, cond_false, Bool.and_eq_true, decide_eq_true_iff, List.all_eq_true] at h
  refine ⟨fun e => by rw [e] at h; exact absurd h.2 (by decide), ris_of fun i hi => ?_⟩
  have := h.1 i (List.mem_range.2 hi)
  rwa [Bool.not_eq_true'] at this
theorem zcV {l : List Int} (h : za3 l (0, 0, ()) = true) : l = [] := by
  have h : (((l.length : Nat) : Int) == 0) = true := h
  have := beq_iff_eq.1 h
  exact List.eq_nil_of_length_eq_zero (by omega)
theorem fld1 {n : Nd} (h : zbA n = true) (k : ndK n = 1) : n = (1, 0, ndL n, ndR n, ndN n, ndM n, [], [], ()) ∧ (1 ≤ ndN n ∧ ndN n ≤ 1099511627776) ∧ (0 ≤ ndM n ∧ ndM n ≤ 1099511627776) := by
  obtain ⟨_, hlen, hc, hm, hl, hn⟩ := zaF h
  obtain ⟨k', c, L, R, N, M, I, S, ⟨⟩⟩ := n
  obtain rfl : k' = 1 := k
  have hc2 : (c == 0) = true := hc
  obtain rfl := beq_iff_eq.1 hc2
  have hm2 : decide (S = []) = true := hm
  obtain rfl := of_decide_eq_true hm2
  obtain rfl := zcV (show za3 I (0, 0, ()) = true from hl)
  have hn2 : (bif inB N 1 1099511627776 then inB M 0 1099511627776 else false) = true := hn
  simp only [zdm, Bool.and_eq_true, zaJ, beq_iff_eq, Bool.not_eq_true', beq_eq_false_iff_ne] at hn2
  exact ⟨rfl, hn2.1, hn2.2⟩
theorem fld2 {n : Nd} (h : zbA n = true) (k : ndK n = 2) : n = (2, ndC n, ndL n, ndR n, ndN n, ndM n, [], [], ()) ∧ (0 ≤ ndC n ∧ ndC n ≤ 2) ∧ (1 ≤ ndN n ∧ ndN n ≤ 400) ∧ (0 ≤ ndM n ∧ ndM n ≤ ndN n - 1) := by
  obtain ⟨_, hlen, hc, hm, hl, hn⟩ := zaF h
  obtain ⟨k', c, L, R, N, M, I, S, ⟨⟩⟩ := n
  obtain rfl : k' = 2 := k
  have hc2 : inB c 0 2 = true := hc
  rw [zaJ] at hc2
  have hm2 : decide (S = []) = true := hm
  obtain rfl := of_decide_eq_true hm2
  obtain rfl := zcV (show za3 I (0, 0, ()) = true from hl)
  have hn2 : (bif inB N 1 400 then inB M 0 (N - 1) else false) = true := hn
  simp only [zdm, Bool.and_eq_true, zaJ, beq_iff_eq, Bool.not_eq_true', beq_eq_false_iff_ne] at hn2
  exact ⟨rfl, hc2, hn2.1, hn2.2⟩
theorem fld3 {n : Nd} (h : zbA n = true) (k : ndK n = 3) : n = (3, ndC n, ndL n, ndR n, 0, 0, ndI n, [], ()) ∧ (0 ≤ ndC n ∧ ndC n ≤ 2) ∧ (ndI n ≠ [] ∧ (ndI n).length ≤ 64 ∧ Ris (1) 16 true (0) (ndI n)) := by
  obtain ⟨_, hlen, hc, hm, hl, hn⟩ := zaF h
  obtain ⟨k', c, L, R, N, M, I, S, ⟨⟩⟩ := n
  obtain rfl : k' = 3 := k
  have hc2 : inB c 0 2 = true := hc
  rw [zaJ] at hc2
  have hm2 : decide (S = []) = true := hm
  obtain rfl := of_decide_eq_true hm2
  have hl2 := zeq (by decide) (show za3 I (1, 16, ()) = true from hl)
  have hn2 : (bif N == 0 then M == 0 else false) = true := hn
  simp only [zdm, Bool.and_eq_true, zaJ, beq_iff_eq, Bool.not_eq_true', beq_eq_false_iff_ne] at hn2
  obtain ⟨rfl, rfl⟩ := hn2
  exact ⟨rfl, hc2, ⟨hl2.1, hlen, hl2.2⟩⟩
theorem fld4 {n : Nd} (h : zbA n = true) (k : ndK n = 4) : n = (4, ndC n, ndL n, ndR n, 0, 0, ndI n, [], ()) ∧ (0 ≤ ndC n ∧ ndC n ≤ 2) ∧ (ndI n ≠ [] ∧ (ndI n).length ≤ 64 ∧ Ris (-40) 40 false (-41) (ndI n)) := by
  obtain ⟨_, hlen, hc, hm, hl, hn⟩ := zaF h
  obtain ⟨k', c, L, R, N, M, I, S, ⟨⟩⟩ := n
  obtain rfl : k' = 4 := k
  have hc2 : inB c 0 2 = true := hc
  rw [zaJ] at hc2
  have hm2 : decide (S = []) = true := hm
  obtain rfl := of_decide_eq_true hm2
  have hl2 := zeq (by decide) (show za3 I (-40, 40, ()) = true from hl)
  have hn2 : (bif N == 0 then M == 0 else false) = true := hn
  simp only [zdm, Bool.and_eq_true, zaJ, beq_iff_eq, Bool.not_eq_true', beq_eq_false_iff_ne] at hn2
  obtain ⟨rfl, rfl⟩ := hn2
  exact ⟨rfl, hc2, ⟨hl2.1, hlen, hl2.2⟩⟩
theorem fld5 {n : Nd} (h : zbA n = true) (k : ndK n = 5) : n = (5, 0, ndL n, ndR n, 0, 0, ndI n, [], ()) ∧ (ndI n ≠ [] ∧ (ndI n).length ≤ 64 ∧ Ris (0) 6 true (-1) (ndI n)) := by
  obtain ⟨_, hlen, hc, hm, hl, hn⟩ := zaF h
  obtain ⟨k', c, L, R, N, M, I, S, ⟨⟩⟩ := n
  obtain rfl : k' = 5 := k
  have hc2 : (c == 0) = true := hc
  obtain rfl := beq_iff_eq.1 hc2
  have hm2 : decide (S = []) = true := hm
  obtain rfl := of_decide_eq_true hm2
  have hl2 := zeq (by decide) (show za3 I (0, 6, ()) = true from hl)
  have hn2 : (bif N == 0 then M == 0 else false) = true := hn
  simp only [zdm, Bool.and_eq_true, zaJ, beq_iff_eq, Bool.not_eq_true', beq_eq_false_iff_ne] at hn2
  obtain ⟨rfl, rfl⟩ := hn2
  exact ⟨rfl, ⟨hl2.1, hlen, hl2.2⟩⟩
theorem fld6 {n : Nd} (h : zbA n = true) (k : ndK n = 6) : n = (6, ndC n, ndL n, ndR n, 0, 0, ndI n, [], ()) ∧ (0 ≤ ndC n ∧ ndC n ≤ 2) ∧ (ndI n ≠ [] ∧ (ndI n).length ≤ 64 ∧ Ris (1) 54 true (0) (ndI n)) := by
  obtain ⟨_, hlen, hc, hm, hl, hn⟩ := zaF h
  obtain ⟨k', c, L, R, N, M, I, S, ⟨⟩⟩ := n
  obtain rfl : k' = 6 := k
  have hc2 : inB c 0 2 = true := hc
  rw [zaJ] at hc2
  have hm2 : decide (S = []) = true := hm
  obtain rfl := of_decide_eq_true hm2
  have hl2 := zeq (by decide) (show za3 I (1, 54, ()) = true from hl)
  have hn2 : (bif N == 0 then M == 0 else false) = true := hn
  simp only [zdm, Bool.and_eq_true, zaJ, beq_iff_eq, Bool.not_eq_true', beq_eq_false_iff_ne] at hn2
  obtain ⟨rfl, rfl⟩ := hn2
  exact ⟨rfl, hc2, ⟨hl2.1, hlen, hl2.2⟩⟩
theorem fld7 {n : Nd} (h : zbA n = true) (k : ndK n = 7) : n = (7, ndC n, ndL n, ndR n, ndN n, ndM n, [], [], ()) ∧ (0 ≤ ndC n ∧ ndC n ≤ 2) ∧ (-60 ≤ ndN n ∧ ndN n ≤ 60) ∧ ndN n ≠ 0 ∧ (0 ≤ ndM n ∧ ndM n ≤ 6) ∧ (0 ≤ ndL n ∧ ndL n ≤ 1) := by
  obtain ⟨_, hlen, hc, hm, hl, hn⟩ := zaF h
  obtain ⟨k', c, L, R, N, M, I, S, ⟨⟩⟩ := n
  obtain rfl : k' = 7 := k
  have hc2 : inB c 0 2 = true := hc
  rw [zaJ] at hc2
  have hm2 : decide (S = []) = true := hm
  obtain rfl := of_decide_eq_true hm2
  obtain rfl := zcV (show za3 I (0, 0, ()) = true from hl)
  have hn2 : (bif (bif (bif inB N (-60) 60 then !(N == 0) else false) then inB M 0 6 else false) then inB L 0 1 else false) = true := hn
  simp only [zdm, Bool.and_eq_true, zaJ, beq_iff_eq, Bool.not_eq_true', beq_eq_false_iff_ne] at hn2
  exact ⟨rfl, hc2, hn2.1.1.1, hn2.1.1.2, hn2.1.2, hn2.2⟩
theorem fld8 {n : Nd} (h : zbA n = true) (k : ndK n = 8) : n = (8, 0, ndL n, ndR n, 0, 0, [], [], ()) := by
  obtain ⟨_, hlen, hc, hm, hl, hn⟩ := zaF h
  obtain ⟨k', c, L, R, N, M, I, S, ⟨⟩⟩ := n
  obtain rfl : k' = 8 := k
  have hc2 : (c == 0) = true := hc
  obtain rfl := beq_iff_eq.1 hc2
  have hm2 : decide (S = []) = true := hm
  obtain rfl := of_decide_eq_true hm2
  obtain rfl := zcV (show za3 I (0, 0, ()) = true from hl)
  have hn2 : (bif N == 0 then M == 0 else false) = true := hn
  simp only [zdm, Bool.and_eq_true, zaJ, beq_iff_eq, Bool.not_eq_true', beq_eq_false_iff_ne] at hn2
  obtain ⟨rfl, rfl⟩ := hn2
  exact rfl
theorem fld9 {n : Nd} (h : zbA n = true) (k : ndK n = 9) : n = (9, 0, ndL n, ndR n, 0, 0, [], [], ()) := by
  obtain ⟨_, hlen, hc, hm, hl, hn⟩ := zaF h
  obtain ⟨k', c, L, R, N, M, I, S, ⟨⟩⟩ := n
  obtain rfl : k' = 9 := k
  have hc2 : (c == 0) = true := hc
  obtain rfl := beq_iff_eq.1 hc2
  have hm2 : decide (S = []) = true := hm
  obtain rfl := of_decide_eq_true hm2
  obtain rfl := zcV (show za3 I (0, 0, ()) = true from hl)
  have hn2 : (bif N == 0 then M == 0 else false) = true := hn
  simp only [zdm, Bool.and_eq_true, zaJ, beq_iff_eq, Bool.not_eq_true', beq_eq_false_iff_ne] at hn2
  obtain ⟨rfl, rfl⟩ := hn2
  exact rfl
theorem fld10 {n : Nd} (h : zbA n = true) (k : ndK n = 10) : n = (10, 0, ndL n, ndR n, 0, 0, [], [], ()) := by
  obtain ⟨_, hlen, hc, hm, hl, hn⟩ := zaF h
  obtain ⟨k', c, L, R, N, M, I, S, ⟨⟩⟩ := n
  obtain rfl : k' = 10 := k
  have hc2 : (c == 0) = true := hc
  obtain rfl := beq_iff_eq.1 hc2
  have hm2 : decide (S = []) = true := hm
  obtain rfl := of_decide_eq_true hm2
  obtain rfl := zcV (show za3 I (0, 0, ()) = true from hl)
  have hn2 : (bif N == 0 then M == 0 else false) = true := hn
  simp only [zdm, Bool.and_eq_true, zaJ, beq_iff_eq, Bool.not_eq_true', beq_eq_false_iff_ne] at hn2
  obtain ⟨rfl, rfl⟩ := hn2
  exact rfl
theorem zq7 {n : Nd} (h : zbA n = true) (k : ndK n = 11) : n = (11, 0, ndL n, ndR n, ndN n, 0, [], [], ()) ∧ (-1099511627776 ≤ ndN n ∧ ndN n ≤ 1099511627776) := by
  obtain ⟨_, hlen, hc, hm, hl, hn⟩ := zaF h
  obtain ⟨k', c, L, R, N, M, I, S, ⟨⟩⟩ := n
  obtain rfl : k' = 11 := k
  have hc2 : (c == 0) = true := hc
  obtain rfl := beq_iff_eq.1 hc2
  have hm2 : decide (S = []) = true := hm
  obtain rfl := of_decide_eq_true hm2
  obtain rfl := zcV (show za3 I (0, 0, ()) = true from hl)
  have hn2 : (bif inB N (-1099511627776) 1099511627776 then M == 0 else false) = true := hn
  simp only [zdm, Bool.and_eq_true, zaJ, beq_iff_eq, Bool.not_eq_true', beq_eq_false_iff_ne] at hn2
  obtain rfl := hn2.2
  exact ⟨rfl, hn2.1⟩
theorem zq6 {n : Nd} (h : zbA n = true) (k : ndK n = 12) : n = (12, 0, ndL n, ndR n, ndN n, 0, [], [], ()) ∧ (0 ≤ ndN n ∧ ndN n ≤ 1099511627776) := by
  obtain ⟨_, hlen, hc, hm, hl, hn⟩ := zaF h
  obtain ⟨k', c, L, R, N, M, I, S, ⟨⟩⟩ := n
  obtain rfl : k' = 12 := k
  have hc2 : (c == 0) = true := hc
  obtain rfl := beq_iff_eq.1 hc2
  have hm2 : decide (S = []) = true := hm
  obtain rfl := of_decide_eq_true hm2
  obtain rfl := zcV (show za3 I (0, 0, ()) = true from hl)
  have hn2 : (bif inB N 0 1099511627776 then M == 0 else false) = true := hn
  simp only [zdm, Bool.and_eq_true, zaJ, beq_iff_eq, Bool.not_eq_true', beq_eq_false_iff_ne] at hn2
  obtain rfl := hn2.2
  exact ⟨rfl, hn2.1⟩
theorem zq5 {n : Nd} (h : zbA n = true) (k : ndK n = 13) : n = (13, 0, ndL n, ndR n, ndN n, 0, [], [], ()) ∧ (0 ≤ ndN n ∧ ndN n ≤ 1099511627776) := by
  obtain ⟨_, hlen, hc, hm, hl, hn⟩ := zaF h
  obtain ⟨k', c, L, R, N, M, I, S, ⟨⟩⟩ := n
  obtain rfl : k' = 13 := k
  have hc2 : (c == 0) = true := hc
  obtain rfl := beq_iff_eq.1 hc2
  have hm2 : decide (S = []) = true := hm
  obtain rfl := of_decide_eq_true hm2
  obtain rfl := zcV (show za3 I (0, 0, ()) = true from hl)
  have hn2 : (bif inB N 0 1099511627776 then M == 0 else false) = true := hn
  simp only [zdm, Bool.and_eq_true, zaJ, beq_iff_eq, Bool.not_eq_true', beq_eq_false_iff_ne] at hn2
  obtain rfl := hn2.2
  exact ⟨rfl, hn2.1⟩
theorem zq4 {n : Nd} (h : zbA n = true) (k : ndK n = 14) : n = (14, 0, ndL n, ndR n, 0, 0, ndI n, [], ()) ∧ (ndI n ≠ [] ∧ (ndI n).length ≤ 64 ∧ Ris (0) 1099511627776 true (-1) (ndI n)) := by
  obtain ⟨_, hlen, hc, hm, hl, hn⟩ := zaF h
  obtain ⟨k', c, L, R, N, M, I, S, ⟨⟩⟩ := n
  obtain rfl : k' = 14 := k
  have hc2 : (c == 0) = true := hc
  obtain rfl := beq_iff_eq.1 hc2
  have hm2 : decide (S = []) = true := hm
  obtain rfl := of_decide_eq_true hm2
  have hl2 := zeq (by decide) (show za3 I (0, 1099511627776, ()) = true from hl)
  have hn2 : (bif N == 0 then M == 0 else false) = true := hn
  simp only [zdm, Bool.and_eq_true, zaJ, beq_iff_eq, Bool.not_eq_true', beq_eq_false_iff_ne] at hn2
  obtain ⟨rfl, rfl⟩ := hn2
  exact ⟨rfl, ⟨hl2.1, hlen, hl2.2⟩⟩
theorem zq3 {n : Nd} (h : zbA n = true) (k : ndK n = 15) : n = (15, 0, ndL n, ndR n, 0, 0, ndI n, [], ()) ∧ (ndI n ≠ [] ∧ (ndI n).length ≤ 64 ∧ Ris (0) 1099511627776 true (-1) (ndI n)) := by
  obtain ⟨_, hlen, hc, hm, hl, hn⟩ := zaF h
  obtain ⟨k', c, L, R, N, M, I, S, ⟨⟩⟩ := n
  obtain rfl : k' = 15 := k
  have hc2 : (c == 0) = true := hc
  obtain rfl := beq_iff_eq.1 hc2
  have hm2 : decide (S = []) = true := hm
  obtain rfl := of_decide_eq_true hm2
  have hl2 := zeq (by decide) (show za3 I (0, 1099511627776, ()) = true from hl)
  have hn2 : (bif N == 0 then M == 0 else false) = true := hn
  simp only [zdm, Bool.and_eq_true, zaJ, beq_iff_eq, Bool.not_eq_true', beq_eq_false_iff_ne] at hn2
  obtain ⟨rfl, rfl⟩ := hn2
  exact ⟨rfl, ⟨hl2.1, hlen, hl2.2⟩⟩
theorem zq2 {n : Nd} (h : zbA n = true) (k : ndK n = 16) : n = (16, ndC n, ndL n, ndR n, 0, ndM n, ndI n, [], ()) ∧ (0 ≤ ndC n ∧ ndC n ≤ 2) ∧ (ndI n ≠ [] ∧ (ndI n).length ≤ 64 ∧ Ris (-400) 400 false (-401) (ndI n)) ∧ (0 ≤ ndM n ∧ ndM n ≤ 1) := by
  obtain ⟨_, hlen, hc, hm, hl, hn⟩ := zaF h
  obtain ⟨k', c, L, R, N, M, I, S, ⟨⟩⟩ := n
  obtain rfl : k' = 16 := k
  have hc2 : inB c 0 2 = true := hc
  rw [zaJ] at hc2
  have hm2 : decide (S = []) = true := hm
  obtain rfl := of_decide_eq_true hm2
  have hl2 := zeq (by decide) (show za3 I (-400, 400, ()) = true from hl)
  have hn2 : (bif N == 0 then inB M 0 1 else false) = true := hn
  simp only [zdm, Bool.and_eq_true, zaJ, beq_iff_eq, Bool.not_eq_true', beq_eq_false_iff_ne] at hn2
  obtain rfl := hn2.1
  exact ⟨rfl, hc2, ⟨hl2.1, hlen, hl2.2⟩, hn2.2⟩
theorem zq1 {n : Nd} (h : zbA n = true) (k : ndK n = 17) : n = (17, 0, ndL n, ndR n, ndN n, 0, [], [], ()) ∧ (1 ≤ ndN n ∧ ndN n ≤ 400) := by
  obtain ⟨_, hlen, hc, hm, hl, hn⟩ := zaF h
  obtain ⟨k', c, L, R, N, M, I, S, ⟨⟩⟩ := n
  obtain rfl : k' = 17 := k
  have hc2 : (c == 0) = true := hc
  obtain rfl := beq_iff_eq.1 hc2
  have hm2 : decide (S = []) = true := hm
  obtain rfl := of_decide_eq_true hm2
  obtain rfl := zcV (show za3 I (0, 0, ()) = true from hl)
  have hn2 : (bif inB N 1 400 then M == 0 else false) = true := hn
  simp only [zdm, Bool.and_eq_true, zaJ, beq_iff_eq, Bool.not_eq_true', beq_eq_false_iff_ne] at hn2
  obtain rfl := hn2.2
  exact ⟨rfl, hn2.1⟩
theorem zq0 {n : Nd} (h : zbA n = true) (k : ndK n = 18) : n = (18, 0, ndL n, ndR n, 0, 0, [], ndS n, ()) ∧ zeO (ndS n) = true := by
  obtain ⟨_, hlen, hc, hm, hl, hn⟩ := zaF h
  obtain ⟨k', c, L, R, N, M, I, S, ⟨⟩⟩ := n
  obtain rfl : k' = 18 := k
  have hc2 : (c == 0) = true := hc
  obtain rfl := beq_iff_eq.1 hc2
  have hm2 : zeO S = true := hm
  obtain rfl := zcV (show za3 I (0, 0, ()) = true from hl)
  have hn2 : (bif N == 0 then M == 0 else false) = true := hn
  simp only [zdm, Bool.and_eq_true, zaJ, beq_iff_eq, Bool.not_eq_true', beq_eq_false_iff_ne] at hn2
  obtain ⟨rfl, rfl⟩ := hn2
  exact ⟨rfl, hm2⟩
def resQ (s : List UInt8) : Nat -> GSt -> GE (Tr × GSt)
  | 0, st => prsT s (.bin 0) st
  | 1, st => prsT s (.bin 1) st
  | 2, st => prsT s (.bin 2) st
  | 3, st => prsT s .chain st
  | _, st => prsT s .prim st
def contQ (s : List UInt8) : Nat -> Tr -> GSt -> GE (Tr × GSt)
  | 0, t, st => prsT s (.binL 0 t) st
  | 1, t, st => prsT s (.binL 1 t) st
  | 2, t, st => prsT s (.binL 2 t) st
  | 3, t, st => prsT s (.chainL t) st
  | _, t, st => .ok (t, st)
def zoV : List Tk -> Prop
  | [] => True
  | a :: _ => a.1 = 1 -> sufW a.2.1 = none
def zqZ : Nat -> List Tk -> Prop
  | 0, l => tkIs zkt l = false ∧ tkIs wAnd l = false ∧ zoV l
  | 1, l => tkIs wAnd l = false ∧ zoV l
  | 2, l => zoV l
  | _, _ => True
def Qt (i : Nat) (T : List Tk) (t : Tr) : Prop := ∀ (s : List UInt8) (st : GSt) (l : List Tk), GOk s st -> Sq s st.1 (T ++ l) -> st.2 + (t.size : Int) ≤ 64 -> zqZ i l -> ∃ st', resQ s i st = contQ s i t st' ∧ Got s st t.size l st'
section
variable {s : List UInt8}
theorem zmV {st : GSt} {l : List Tk} {t : Tr} (hg : GOk s st) (h : Sq s st.1 l) (hf : zoV l) : prsT s (.chainL t) st = .ok (t, st) := by
  cases l with
  | nil =>
    have h : Tok.cls st.1 = 0 := h
    exact zdI hg (by rw [h]; decide)
  | cons a l =>
    have hf : a.1 = 1 -> sufW a.2.1 = none := hf
    obtain ⟨_, e, _⟩ := h
    have e1 : Tok.cls st.1 = a.1 := congrArg (fun a => a.1) e
    have e2 : Tok.text st.1 = a.2.1 := congrArg (fun a => a.2.1) e
    by_cases hc : a.1 = 1
    · exact zfF hg (by rw [e1, hc]) (by rw [e2]; exact hf hc)
    · exact zdI hg (by rw [e1]; exact hc)
theorem zho {i : Nat} {st : GSt} {l : List Tk} {t : Tr} (hg : GOk s st) (h : Sq s st.1 l) (hf : tkIs (opW i) l = false) : prsT s (.binL i t) st = .ok (t, st) := zhr hg (by rw [zg1 h]; exact hf)
theorem Qt.chain {T : List Tk} {t : Tr} (h : Qt 4 T t) : Qt 3 T t := fun s st l hg hq hn hf => by
  obtain ⟨st', e, g⟩ := h s st l hg hq hn trivial
  have e : prsT s .prim st = .ok (t, st') := e
  exact ⟨st', by show prsT s .chain st = prsT s (.chainL t) st'; rw [zhp hg]; exact okb e _, g⟩
theorem Qt.up3 {T : List Tk} {t : Tr} (h : Qt 3 T t) : Qt 2 T t := fun s st l hg hq hn hf => by
  obtain ⟨st', e, g⟩ := h s st l hg hq hn trivial
  have e : prsT s .chain st = prsT s (.chainL t) st' := e
  rw [zmV g.ok g.sq hf] at e
  refine ⟨st', ?_, g⟩
  show prsT s (.bin 2) st = prsT s (.binL 2 t) st'
  rw [zfX hg (by decide), zgn hg (by decide)]
  exact okb e _
theorem Qt.up2 {T : List Tk} {t : Tr} (h : Qt 2 T t) : Qt 1 T t := fun s st l hg hq hn hf => by
  obtain ⟨st', e, g⟩ := h s st l hg hq hn hf.2
  have e : prsT s (.bin 2) st = prsT s (.binL 2 t) st' := e
  rw [zho (i := 2) g.ok g.sq hf.1] at e
  refine ⟨st', ?_, g⟩
  show prsT s (.bin 1) st = prsT s (.binL 1 t) st'
  rw [zfX hg (by decide)]
  exact okb e _
theorem Qt.up1 {T : List Tk} {t : Tr} (h : Qt 1 T t) : Qt 0 T t := fun s st l hg hq hn hf => by
  obtain ⟨st', e, g⟩ := h s st l hg hq hn hf.2
  have e : prsT s (.bin 1) st = prsT s (.binL 1 t) st' := e
  rw [zho (i := 1) g.ok g.sq hf.1] at e
  refine ⟨st', ?_, g⟩
  show prsT s (.bin 0) st = prsT s (.binL 0 t) st'
  rw [zfX hg (by decide)]
  exact okb e _
theorem Qt.up {T : List Tk} {t : Tr} : ∀ {j i : Nat}, Qt j T t -> i ≤ j -> j ≤ 4 -> Qt i T t := by
  intro j i h hij hj
  have h4 : j = 4 -> ∀ i, i ≤ 4 -> Qt i T t := by
    rintro rfl i hi
    rcases (show i = 0 ∨ i = 1 ∨ i = 2 ∨ i = 3 ∨ i = 4 by omega) with rfl | rfl | rfl | rfl | rfl
    · exact h.chain.up3.up2.up1
    · exact h.chain.up3.up2
    · exact h.chain.up3
    · exact h.chain
    · exact h
  rcases (show j = 0 ∨ j = 1 ∨ j = 2 ∨ j = 3 ∨ j = 4 by omega) with rfl | rfl | rfl | rfl | rfl
  · obtain rfl : i = 0 := by omega
    exact h
  · rcases (show i = 0 ∨ i = 1 by omega) with rfl | rfl
    · exact h.up1
    · exact h
  · rcases (show i = 0 ∨ i = 1 ∨ i = 2 by omega) with rfl | rfl | rfl
    · exact h.up2.up1
    · exact h.up2
    · exact h
  · rcases (show i = 0 ∨ i = 1 ∨ i = 2 ∨ i = 3 by omega) with rfl | rfl | rfl | rfl
    · exact h.up3.up2.up1
    · exact h.up3.up2
    · exact h.up3
    · exact h
  · exact h4 rfl i hij
theorem Qt.par {T : List Tk} {t : Tr} (h : Qt 0 T t) : Qt 4 (tkS 40 :: (T ++ [tkS 41])) t := fun s st l hg hq hn hf => by
  have hq : Sq s st.1 (tkS 40 :: (T ++ [tkS 41] ++ l)) := hq
  have i1 : gIs st zez = true := by rw [zg1 hq]; rfl
  have g1 := zoP hg hq
  have q1 := g1.sq
  rw [List.append_assoc] at q1
  obtain ⟨st', e, g2⟩ := h s (gAdv s st) (tkS 41 :: l) g1.ok q1 hn ⟨rfl, rfl, fun e => by cases e⟩
  have e : prsT s (.bin 0) (gAdv s st) = prsT s (.binL 0 t) st' := e
  rw [zho g2.ok g2.sq rfl] at e
  obtain ⟨e3, g3⟩ := zfW (w := zcI) g2.ok g2.sq rfl
  refine ⟨gAdv s st', ?_, ?_⟩
  · show prsT s .prim st = .ok (t, gAdv s st')
    rw [zci hg, zbf, if_pos i1]
    exact (okb e _).trans ((okb e3 _).trans rfl)
  · have := (g1.trans g2).trans0 g3
    rwa [Int.zero_add] at this
theorem zgl {st : GSt} {w : List UInt8} {lw : LeafW} {T l : List Tk} {n : Nd} (hw : zfR w = some lw) (hw1 : w ≠ zez) (hg : GOk s st) (h : Sq s st.1 (tkW w :: (T ++ l))) (hn : st.2 + 1 ≤ 64)
    (hl : ∀ st1, GOk s st1 -> Sq s st1.1 (T ++ l) -> ∃ st2, zcY s st1 lw = .ok (n, st2) ∧ Got s st1 0 l st2) : ∃ st', prsT s .prim st = .ok (.leaf n, st') ∧ Got s st 1 l st' := by
  have i1 : gIs st zez = false := by
    rw [zg1 h]
    show (true && decide (w = zez)) = false
    rw [decide_eq_false hw1]; rfl
  obtain ⟨e0, g0⟩ := zhV hg h (by omega)
  obtain ⟨_, e, _⟩ := id h
  have e1 : Tok.cls st.1 = 1 := congrArg (fun a => a.1) e
  have e2 : Tok.text st.1 = w := congrArg (fun a => a.2.1) e
  obtain ⟨st2, e3, g3⟩ := hl _ g0.ok g0.sq
  refine ⟨st2, ?_, g0.trans0 g3⟩
  rw [zci hg, zbf, if_neg (by rw [i1]; exact Bool.false_ne_true), if_neg (by rw [e1]; decide)]
  have c0 : zaB st (Tok.cls st.1 == 1) 3 = .ok () := by rw [e1]; rfl
  refine (okb c0 _).trans ?_
  rw [e2, hw]
  exact (okb e0 _).trans ((okb e3 _).trans rfl)
theorem q_ref {st : GSt} {w : List UInt8} {l : List Tk} (hw : w.length ≤ 32) (hg : GOk s st) (h : Sq s st.1 (tkR w :: l)) (hn : st.2 + 1 ≤ 64) : ∃ st', prsT s .prim st = .ok (.leaf (18, 0, 0, 0, 0, 0, [], w, ()), st') ∧ Got s st 1 l st' := by
  have i1 : gIs st zez = false := by rw [zg1 h]; rfl
  obtain ⟨e0, g0⟩ := zhV hg h (by omega)
  obtain ⟨_, e, _⟩ := id h
  have e1 : Tok.cls st.1 = 2 := congrArg (fun a => a.1) e
  have e2 : Tok.text st.1 = w := congrArg (fun a => a.2.1) e
  refine ⟨_, ?_, g0⟩
  rw [zci hg, zbf, if_neg (by rw [i1]; exact Bool.false_ne_true), if_pos e1]
  have c0 : zaB st (decide ((Tok.text st.1).length ≤ 32)) 2 = .ok () := by rw [e2, decide_eq_true hw]; rfl
  refine (okb c0 _).trans ((okb e0 _).trans ?_)
  rw [e2]
  rfl
theorem setN {n : Nd} {k c L R N M : Int} {I : List Int} {S : List UInt8} (e : n = (k, c, ndL n, ndR n, N, M, I, S, ())) (hL : ndL n = L) (hR : ndR n = R) : n = (k, c, L, R, N, M, I, S, ()) := by rw [<- hL, <- hR]; exact e
theorem zqu {n : Nd} (h : TrOk (.leaf n)) : Qt 4 (zi4 n) (.leaf n) := fun s st l hg hq hn hf => by
  obtain ⟨h1, h2, hR, hL⟩ := h
  have hn : st.2 + 1 ≤ 64 := hn
  obtain ⟨⟨k1, k2⟩, _⟩ := zaF h1
  show ∃ st', prsT s .prim st = .ok (.leaf n, st') ∧ Got s st 1 l st'
  unfold zi4 at hq
  rcases (show ndK n = 1 ∨ ndK n = 2 ∨ ndK n = 3 ∨ ndK n = 4 ∨ ndK n = 5 ∨ ndK n = 6 ∨ ndK n = 7 ∨ ndK n = 18 by omega) with k | k | k | k | k | k | k | k <;> rw [k] at hq hL
  · obtain ⟨e, b1, b2⟩ := fld1 h1 k
    have e := setN e (hL (by decide)) hR
    refine zgl (w := ziz) (lw := .days) (T := [tkN (ndN n), tkN (ndM n)]) rfl (by decide) hg hq hn fun st1 g1 q1 => ?_
    obtain ⟨a1, c1⟩ := zbi (lo := 1) (hi := zc3) g1 q1 b1.1 b1.2
    obtain ⟨a2, c2⟩ := zbi (lo := 0) (hi := zc3) c1.ok c1.sq b2.1 b2.2
    refine ⟨_, (okb a1 _).trans ((okb a2 _).trans ?_), c1.trans0 c2⟩
    conv => rhs; rw [e]
    rfl
  · obtain ⟨e, b0, b1, b2⟩ := fld2 h1 k
    have e := setN e (hL (by decide)) hR
    refine zgl (w := zfB) (lw := .years) (T := [tkN (ndC n), tkN (ndN n), tkN (ndM n)]) rfl (by decide) hg hq hn fun st1 g1 q1 => ?_
    obtain ⟨a0, c0⟩ := zbi (lo := 0) (hi := 2) g1 q1 b0.1 b0.2
    obtain ⟨a1, c1⟩ := zbi (lo := 1) (hi := 400) c0.ok c0.sq b1.1 b1.2
    obtain ⟨a2, c2⟩ := zbi (lo := 0) (hi := ndN n - 1) c1.ok c1.sq b2.1 b2.2
    refine ⟨_, (okb a0 _).trans ((okb a1 _).trans ((okb a2 _).trans ?_)), (c0.trans0 c1).trans0 c2⟩
    conv => rhs; rw [e]
    rfl
  · obtain ⟨e, b0, b1, b2, b3⟩ := fld3 h1 k
    have e := setN e (hL (by decide)) hR
    refine zgl (w := zce) (lw := .months) (T := tkN (ndC n) :: zcJ (ndI n)) rfl (by decide) hg hq hn fun st1 g1 q1 => ?_
    obtain ⟨a0, c0⟩ := zbi (lo := 0) (hi := 2) g1 q1 b0.1 b0.2
    obtain ⟨st2, a1, c1⟩ := zgm b1 b2 b3 c0.ok c0.sq
    refine ⟨_, (okb a0 _).trans ((okb a1 _).trans ?_), c0.trans0 c1⟩
    conv => rhs; rw [e]
    rfl
  · obtain ⟨e, b0, b1, b2, b3⟩ := fld4 h1 k
    have e := setN e (hL (by decide)) hR
    refine zgl (w := zaZ) (lw := .monthdays) (T := tkN (ndC n) :: zcJ (ndI n)) rfl (by decide) hg hq hn fun st1 g1 q1 => ?_
    obtain ⟨a0, c0⟩ := zbi (lo := 0) (hi := 2) g1 q1 b0.1 b0.2
    obtain ⟨st2, a1, c1⟩ := zgm b1 b2 b3 c0.ok c0.sq
    refine ⟨_, (okb a0 _).trans ((okb a1 _).trans ?_), c0.trans0 c1⟩
    conv => rhs; rw [e]
    rfl
  · obtain ⟨e, b1, b2, b3⟩ := fld5 h1 k
    have e := setN e (hL (by decide)) hR
    refine zgl (w := zbh) (lw := .weekdays) (T := zcJ (ndI n)) rfl (by decide) hg hq hn fun st1 g1 q1 => ?_
    obtain ⟨st2, a1, c1⟩ := zgm b1 b2 b3 g1 q1
    refine ⟨_, (okb a1 _).trans ?_, c1⟩
    conv => rhs; rw [e]
    rfl
  · obtain ⟨e, b0, b1, b2, b3⟩ := fld6 h1 k
    have e := setN e (hL (by decide)) hR
    refine zgl (w := zc4) (lw := .weeks) (T := tkN (ndC n) :: zcJ (ndI n)) rfl (by decide) hg hq hn fun st1 g1 q1 => ?_
    obtain ⟨a0, c0⟩ := zbi (lo := 0) (hi := 2) g1 q1 b0.1 b0.2
    obtain ⟨st2, a1, c1⟩ := zgm b1 b2 b3 c0.ok c0.sq
    refine ⟨_, (okb a0 _).trans ((okb a1 _).trans ?_), c0.trans0 c1⟩
    conv => rhs; rw [e]
    rfl
  · obtain ⟨e, b0, b1, bz, b2, b3⟩ := fld7 h1 k
    have e := setN e rfl hR
    refine zgl (w := wNth) (lw := .nth) (T := [tkN (ndC n), tkN (ndN n), tkN (ndM n), zdE (ndL n)]) rfl (by decide) hg hq hn fun st1 g1 q1 => ?_
    obtain ⟨a0, c0⟩ := zbi (lo := 0) (hi := 2) g1 q1 b0.1 b0.2
    obtain ⟨a1, c1⟩ := zbi (lo := -60) (hi := 60) c0.ok c0.sq b1.1 b1.2
    obtain ⟨a2, c2⟩ := zbi (lo := 0) (hi := 6) c1.ok c1.sq b2.1 b2.2
    obtain ⟨a3, c3⟩ := zmU (x := ndL n) (by omega) c2.ok c2.sq
    have cz : zaB (gAdv s st1) ((Tok.cls (gAdv s st1).1 != 3) || (Tok.n (gAdv s st1).1 != 0)) 1 = .ok () := by
      have hq := c0.sq
      obtain ⟨_, e, _⟩ := hq
      have e2 : Tok.n (gAdv s st1).1 = ndN n := congrArg (fun a => a.2.2) e
      rw [e2, bne_iff_ne.2 bz, Bool.or_true]; rfl
    refine ⟨_, (okb a0 _).trans ((okb cz _).trans ((okb a1 _).trans ((okb a2 _).trans ((okb a3 _).trans ?_)))), ((c0.trans0 c1).trans0 c2).trans0 c3⟩
    conv => rhs; rw [e]
    rfl
  · obtain ⟨e, b0⟩ := zq0 h1 k
    have e := setN e (hL (by decide)) hR
    have hl : (ndS n).length ≤ 32 := by
      unfold zeO at b0
      simp only [Bool.and_eq_true, decide_eq_true_iff] at b0
      exact b0.1.2
    obtain ⟨st', e1, g1⟩ := q_ref hl hg hq hn
    refine ⟨st', e1.trans ?_, g1⟩
    conv => rhs; rw [e]
theorem zjR {st : GSt} {w : List UInt8} {sw : SufW} {T l : List Tk} {t t' : Tr} {k : Int} (hw : sufW w = some sw) (hg : GOk s st) (h : Sq s st.1 (tkW w :: (T ++ l))) (hn : st.2 + 1 ≤ 64)
    (hl : ∀ st1, GOk s st1 -> st1.2 = st.2 + 1 -> Sq s st1.1 (T ++ l) -> ∃ st2, sufT (s := s) t st1 sw = .ok (t', st2) ∧ Got s st1 k l st2) : ∃ st', prsT s (.chainL t) st = prsT s (.chainL t') st' ∧ Got s st (1 + k) l st' := by
  obtain ⟨e0, g0⟩ := zhV hg h (by omega)
  obtain ⟨_, e, _⟩ := id h
  have e1 : Tok.cls st.1 = 1 := congrArg (fun a => a.1) e
  have e2 : Tok.text st.1 = w := congrArg (fun a => a.2.1) e
  obtain ⟨st2, e3, g3⟩ := hl _ g0.ok rfl g0.sq
  refine ⟨st2, ?_, g0.trans g3⟩
  rw [zfG hg e1 (by rw [e2]; exact hw)]
  exact (okb e0 _).trans ((okb e3 _).trans rfl)
theorem q_un {n : Nd} {a : Tr} {st : GSt} {l : List Tk} (h1 : zbA n = true) (hk : 11 ≤ ndK n ∧ ndK n ≤ 16) (hLR : ndL n = 0 ∧ ndR n = 0) (hg : GOk s st) (hq : Sq s st.1 (zhK [] n ++ l)) (hn : st.2 + 1 ≤ 64) :
    ∃ st', prsT s (.chainL a) st = prsT s (.chainL (.un n a)) st' ∧ Got s st 1 l st' := by
  unfold zhK at hq
  rcases (show ndK n = 11 ∨ ndK n = 12 ∨ ndK n = 13 ∨ ndK n = 14 ∨ ndK n = 15 ∨ ndK n = 16 by omega) with k | k | k | k | k | k <;> rw [k] at hq
  · obtain ⟨e, b1⟩ := zq7 h1 k
    have e := setN e hLR.1 hLR.2
    refine zjR (k := 0) (w := zey) (sw := .shift) (T := [tkN (ndN n)]) rfl hg hq hn fun st1 g1 _ q1 => ?_
    obtain ⟨a1, c1⟩ := zbi (lo := -zc3) (hi := zc3) g1 q1 b1.1 b1.2
    have hs : gSuf s st1 .shift = .ok ((11, 0, 0, 0, ndN n, 0, [], [], ()), gAdv s st1) := (okb a1 _).trans rfl
    refine ⟨_, (okb hs _).trans ?_, c1⟩
    conv => rhs; rw [e]
  · obtain ⟨e, b1⟩ := zq6 h1 k
    have e := setN e hLR.1 hLR.2
    refine zjR (k := 0) (w := zhH) (sw := .from_) (T := [tkN (ndN n)]) rfl hg hq hn fun st1 g1 _ q1 => ?_
    obtain ⟨a1, c1⟩ := zbi (lo := 0) (hi := zc3) g1 q1 b1.1 b1.2
    have hs : gSuf s st1 .from_ = .ok ((12, 0, 0, 0, ndN n, 0, [], [], ()), gAdv s st1) := (okb a1 _).trans rfl
    refine ⟨_, (okb hs _).trans ?_, c1⟩
    conv => rhs; rw [e]
  · obtain ⟨e, b1⟩ := zq5 h1 k
    have e := setN e hLR.1 hLR.2
    refine zjR (k := 0) (w := zex) (sw := .until_) (T := [tkN (ndN n)]) rfl hg hq hn fun st1 g1 _ q1 => ?_
    obtain ⟨a1, c1⟩ := zbi (lo := 0) (hi := zc3) g1 q1 b1.1 b1.2
    have hs : gSuf s st1 .until_ = .ok ((13, 0, 0, 0, ndN n, 0, [], [], ()), gAdv s st1) := (okb a1 _).trans rfl
    refine ⟨_, (okb hs _).trans ?_, c1⟩
    conv => rhs; rw [e]
  · obtain ⟨e, b1, b2, b3⟩ := zq4 h1 k
    have e := setN e hLR.1 hLR.2
    refine zjR (k := 0) (w := zeA) (sw := .also) (T := zcJ (ndI n)) rfl hg hq hn fun st1 g1 _ q1 => ?_
    obtain ⟨st2, a1, c1⟩ := zgm b1 b2 b3 g1 q1
    have hs : gSuf s st1 .also = .ok ((14, 0, 0, 0, 0, 0, ndI n, [], ()), st2) := (okb a1 _).trans rfl
    refine ⟨_, (okb hs _).trans ?_, c1⟩
    conv => rhs; rw [e]
  · obtain ⟨e, b1, b2, b3⟩ := zq3 h1 k
    have e := setN e hLR.1 hLR.2
    refine zjR (k := 0) (w := zcf) (sw := .except_) (T := zcJ (ndI n)) rfl hg hq hn fun st1 g1 _ q1 => ?_
    obtain ⟨st2, a1, c1⟩ := zgm b1 b2 b3 g1 q1
    have hs : gSuf s st1 .except_ = .ok ((15, 0, 0, 0, 0, 0, ndI n, [], ()), st2) := (okb a1 _).trans rfl
    refine ⟨_, (okb hs _).trans ?_, c1⟩
    conv => rhs; rw [e]
  · obtain ⟨e, b0, ⟨b1, b2, b3⟩, b4⟩ := zq2 h1 k
    have e := setN e hLR.1 hLR.2
    refine zjR (k := 0) (w := wPos) (sw := .pos) (T := tkN (ndC n) :: zdE (ndM n) :: zcJ (ndI n)) rfl hg hq hn fun st1 g1 _ q1 => ?_
    obtain ⟨a0, c0⟩ := zbi (lo := 0) (hi := 2) g1 q1 b0.1 b0.2
    obtain ⟨a2, c2⟩ := zmU (x := ndM n) (by omega) c0.ok c0.sq
    obtain ⟨st2, a1, c1⟩ := zgm b1 b2 b3 c2.ok c2.sq
    have hs : gSuf s st1 .pos = .ok ((16, ndC n, 0, 0, 0, ndM n, ndI n, [], ()), st2) := (okb a0 _).trans ((okb a2 _).trans ((okb a1 _).trans rfl))
    refine ⟨_, (okb hs _).trans ?_, (c0.trans0 c2).trans0 c1⟩
    conv => rhs; rw [e]
theorem zoO {n : Nd} {a b : Tr} {B : List Tk} {st : GSt} {l : List Tk} (h1 : zbA n = true) (hk : ndK n = 17) (hLR : ndL n = 0 ∧ ndR n = 0) (hB : Qt 4 B b) (hg : GOk s st) (hq : Sq s st.1 (zhK B n ++ l)) (hn : st.2 + 1 + (b.size : Int) ≤ 64) :
    ∃ st', prsT s (.chainL a) st = prsT s (.chainL (.bin n a b)) st' ∧ Got s st (1 + b.size) l st' := by
  unfold zhK at hq
  rw [hk] at hq
  obtain ⟨e, b1⟩ := zq1 h1 hk
  have e := setN e hLR.1 hLR.2
  refine zjR (k := b.size) (w := zbQ) (sw := .behind) (T := tkN (ndN n) :: tkW wOf :: B) rfl hg hq (by omega) fun st1 g1 hn1 q1 => ?_
  obtain ⟨a1, c1⟩ := zbi (lo := 1) (hi := 400) g1 q1 b1.1 b1.2
  obtain ⟨a2, c2⟩ := zfW (w := wOf) c1.ok c1.sq rfl
  obtain ⟨st', a3, c3⟩ := hB s _ l c2.ok c2.sq (by rw [c2.n, c1.n]; omega) trivial
  have a3 : prsT s .prim (gAdv s (gAdv s st1)) = .ok (b, st') := a3
  refine ⟨st', ?_, ?_⟩
  · have hs : gSuf s st1 .behind = .ok ((17, 0, 0, 0, ndN n, 0, [], [], ()), gAdv s (gAdv s st1)) := (okb a1 _).trans ((okb a2 _).trans rfl)
    refine (okb hs _).trans ((okb a3 _).trans ?_)
    conv => rhs; rw [e]
  · have := (c1.trans c2).trans c3
    rwa [Int.zero_add, Int.zero_add] at this
def levI (t : Tr) : Nat := (t.lev - 1).toNat
theorem zj1 (k : Int) : 1 ≤ levS k ∧ levS k ≤ 5 := by
  unfold levS
  repeat' split
  all_goals omega
theorem zkP {k : Int} (h : ¬ (8 ≤ k ∧ k ≤ 17)) : levS k = 5 := by
  unfold levS
  rw [if_neg (by omega), if_neg (by omega), if_neg (by omega), if_neg (by omega)]
theorem zj0 {k : Int} (h : 11 ≤ k ∧ k ≤ 17) : levS k = 4 := by
  unfold levS
  rw [if_neg (by omega), if_neg (by omega), if_neg (by omega), if_pos h]
theorem zhU {a : Tr} (h : Qt (levI a) a.toks a) {r : Int} {i : Nat} (hr : r = (i : Int) + 1) (hi : i ≤ 4) : Qt i (parT (decide (a.lev ≥ r)) a.toks) a := by
  obtain ⟨l1, l5⟩ := zj1 (ndK a.root)
  have hl : levI a ≤ 4 := by unfold levI Tr.lev; omega
  by_cases hc : a.lev ≥ r
  · rw [decide_eq_true hc]
    refine h.up ?_ hl
    unfold levI Tr.lev at *
    omega
  · rw [decide_eq_false hc]
    exact (Qt.par (h.up (Nat.zero_le _) hl)).up hi (Nat.le_refl _)
theorem zjS {i : Nat} {n : Nd} {a b : Tr} {A B : List Tk} (hi : i ≤ 2) (hA : Qt i A a) (hB : Qt (i + 1) B b) (hn0 : n = (opK i, zNd.2)) : Qt i (A ++ (tkW (opW i) :: B)) (.bin n a b) := fun s st l hg hq hn hf => by
  have hn : st.2 + ((a.size + b.size + 1 : Nat) : Int) ≤ 64 := hn
  rw [List.append_assoc] at hq
  have hfa : zqZ i (tkW (opW i) :: B ++ l) := by
    rcases (show i = 0 ∨ i = 1 ∨ i = 2 by omega) with rfl | rfl | rfl
    · exact ⟨rfl, rfl, fun _ => rfl⟩
    · exact ⟨rfl, fun _ => rfl⟩
    · exact fun _ => rfl
  obtain ⟨st1, e1, g1⟩ := hA s st _ hg hq (by omega) hfa
  have q1 : Sq s st1.1 (tkW (opW i) :: (B ++ l)) := g1.sq
  have n1 := g1.n
  have hop : gIs st1 (opW i) = true := by
    rw [zg1 q1]
    show (true && decide (opW i = opW i)) = true
    rw [decide_eq_true rfl]; rfl
  obtain ⟨e2, g2⟩ := zhV g1.ok q1 (by omega)
  have n2 := g2.n
  have hfb : zqZ (i + 1) l := by
    rcases (show i = 0 ∨ i = 1 ∨ i = 2 by omega) with rfl | rfl | rfl
    · exact hf.2
    · exact hf.2
    · trivial
  obtain ⟨st3, e3, g3⟩ := hB s _ l g2.ok g2.sq (by rw [n2, n1]; omega) hfb
  have e4 : prsT s (.bin (i + 1)) (gAdv s (st1.1, st1.2 + 1)) = .ok (b, st3) := by
    rcases (show i = 0 ∨ i = 1 ∨ i = 2 by omega) with rfl | rfl | rfl
    · have e3 : prsT s (.bin 1) _ = prsT s (.binL 1 b) st3 := e3
      rw [zho (i := 1) g3.ok g3.sq hf.1] at e3
      exact e3
    · have e3 : prsT s (.bin 2) _ = prsT s (.binL 2 b) st3 := e3
      rw [zho (i := 2) g3.ok g3.sq hf.1] at e3
      exact e3
    · have e3 : prsT s .chain _ = prsT s (.chainL b) st3 := e3
      rw [zmV g3.ok g3.sq hf] at e3
      rw [zgn g2.ok (by decide)]
      exact e3
  have e5 : prsT s (.binL i a) st1 = prsT s (.binL i (.bin n a b)) st3 := by
    rw [zhq g1.ok hop, hn0]
    exact (okb e2 _).trans ((okb e4 _).trans rfl)
  refine ⟨st3, ?_, ?_⟩
  · rw [e1]
    rcases (show i = 0 ∨ i = 1 ∨ i = 2 by omega) with rfl | rfl | rfl
    · exact e5
    · exact e5
    · exact e5
  · have := (g1.trans g2).trans g3
    rwa [show (a.size : Int) + 1 + (b.size : Int) = ((Tr.bin n a b).size : Int) by show _ = ((a.size + b.size + 1 : Nat) : Int); omega] at this
theorem fld_op {n : Nd} (h : zbA n = true) (hk : 8 ≤ ndK n ∧ ndK n ≤ 10) (hLR : ndL n = 0 ∧ ndR n = 0) : n = (ndK n, zNd.2) := by
  rcases (show ndK n = 8 ∨ ndK n = 9 ∨ ndK n = 10 by omega) with k | k | k
  · rw [k]; exact setN (fld8 h k) hLR.1 hLR.2
  · rw [k]; exact setN (fld9 h k) hLR.1 hLR.2
  · rw [k]; exact setN (fld10 h k) hLR.1 hLR.2
theorem zec : ∀ t : Tr, TrOk t -> Qt (levI t) t.toks t
  | .leaf n, h => by
    have : levI (.leaf n) = 4 := by
      show (levS (ndK n) - 1).toNat = 4
      rw [zkP h.2.1]; rfl
    rw [this]
    exact zqu h
  | .un n a, h => by
    obtain ⟨h1, hk, hLR, ha⟩ := h
    have : levI (.un n a) = 3 := by
      show (levS (ndK n) - 1).toNat = 3
      rw [zj0 (by omega)]; rfl
    rw [this]
    intro s st l hg hq hn hf
    have hn : st.2 + ((a.size + 1 : Nat) : Int) ≤ 64 := hn
    have hq : Sq s st.1 (parT (decide (a.lev ≥ 4)) a.toks ++ zhK [] n ++ l) := hq
    rw [List.append_assoc] at hq
    obtain ⟨st1, e1, g1⟩ := zhU (zec a ha) (i := 3) rfl (by decide) s st _ hg hq (by omega) trivial
    have n1 := g1.n
    obtain ⟨st2, e2, g2⟩ := q_un (a := a) h1 hk hLR g1.ok g1.sq (by omega)
    exact ⟨st2, Eq.trans e1 e2, g1.trans g2⟩
  | .bin n a b, h => by
    obtain ⟨h1, hk, hLR, ha, hb⟩ := h
    by_cases h17 : ndK n = 17
    · have : levI (.bin n a b) = 3 := by
        show (levS (ndK n) - 1).toNat = 3
        rw [zj0 (by omega)]; rfl
      rw [this]
      intro s st l hg hq hn hf
      have hn : st.2 + ((a.size + b.size + 1 : Nat) : Int) ≤ 64 := hn
      unfold Tr.toks at hq
      rw [if_pos h17, List.append_assoc] at hq
      obtain ⟨st1, e1, g1⟩ := zhU (zec a ha) (i := 3) rfl (by decide) s st _ hg hq (by omega) trivial
      have n1 := g1.n
      obtain ⟨st2, e2, g2⟩ := zoO (a := a) h1 h17 hLR (zhU (zec b hb) (r := 5) (i := 4) rfl (by decide)) g1.ok g1.sq (by omega)
      have := g1.trans g2
      rw [show (a.size : Int) + (1 + (b.size : Int)) = ((Tr.bin n a b).size : Int) by show _ = ((a.size + b.size + 1 : Nat) : Int); omega] at this
      exact ⟨st2, Eq.trans e1 e2, this⟩
    · have hk : 8 ≤ ndK n ∧ ndK n ≤ 10 := by omega
      have hn0 := fld_op h1 hk hLR
      unfold Tr.toks
      rw [if_neg h17]
      have hl : levI (.bin n a b) = (levS (ndK n) - 1).toNat := rfl
      rw [hl]
      rcases (show ndK n = 8 ∨ ndK n = 9 ∨ ndK n = 10 by omega) with k | k | k <;> rw [k] at hn0 ⊢
      · exact zjS (i := 2) (by decide) (zhU (zec a ha) rfl (by decide)) (zhU (zec b hb) (r := 4) rfl (by decide)) hn0
      · exact zjS (i := 0) (by decide) (zhU (zec a ha) rfl (by decide)) (zhU (zec b hb) (r := 2) rfl (by decide)) hn0
      · exact zjS (i := 1) (by decide) (zhU (zec a ha) rfl (by decide)) (zhU (zec b hb) (r := 3) rfl (by decide)) hn0
theorem q_rule {T : List Tk} {t : Tr} (hT : Qt 0 T t) (hs : t.size ≤ 64) (h : Toks s 0 T) : zee s = .ok t := by
  have hg : GOk s (zg7 s) := zf2
  obtain ⟨st', e, g⟩ := hT s (zg7 s) [] hg (by rw [List.append_nil]; exact zjM h) (by show (0 : Int) + _ ≤ 64; omega) ⟨rfl, rfl, trivial⟩
  have e : prsT s (.bin 0) (zg7 s) = prsT s (.binL 0 t) st' := e
  rw [zho g.ok g.sq rfl] at e
  have hc : Tok.cls st'.1 = 0 := g.sq
  have hr : zet s (zg7 s) = .ok (t, st') := by
    unfold zet
    refine (okb e _).trans ?_
    have c0 : zaB st' (Tok.cls st'.1 == 0) 3 = .ok () := by rw [hc]; rfl
    exact (okb c0 _).trans rfl
  unfold zee
  rw [hr]; rfl
end
def Bd : List UInt8 -> Prop
  | [] => True
  | c :: _ => isPt c = false
theorem Bd.app {r v : List UInt8} (h : Bd r) (hv : Bd v) : Bd (r ++ v) := by
  cases r with
  | nil => exact hv
  | cons c r => exact h
def zea (k : Int) (u : List UInt8) : TokT :=
  match u with
  | [] => (0, k, 0, [], 0, ())
  | c :: r =>
    if 0 < zav (c :: r) then (1, k, (zav (c :: r) : Nat), (c :: r).take (zav (c :: r)), 0, ())
    else if c = 64 ∧ 0 < zav r then (2, k, (zav r : Nat) + 1, r.take (zav r), 0, ())
    else match zcz (c :: r) with
      | some (q, n, t, x) => (q, k, (n : Nat), t, x, ())
      | none => if c = 40 ∨ c = 41 ∨ c = 61 then (4, k, 1, [c], 0, ()) else (5, k, 1, [c], 0, ())
theorem zmD (s : List UInt8) : zaW s = zea ((zbr isWh s : Nat) : Int) (s.drop (zbr isWh s)) := rfl
theorem zoA (k : Int) (u : List UInt8) : zea k u = ((zea 0 u).1, k, (zea 0 u).2.2) := by
  cases u with
  | nil => rfl
  | cons c r =>
    unfold zea
    simp only []
    split
    · rfl
    · split
      · rfl
      · split
        · rfl
        · split <;> rfl
theorem zhN {p : UInt8 -> Bool} {w u : List UInt8} (h : ∀ c ∈ w, p c = true) : zbr p (w ++ u) = w.length + zbr p u := by
  unfold zbr
  rw [List.takeWhile_append_of_pos h, List.length_append]
theorem zpJ {p : UInt8 -> Bool} {c : UInt8} {u : List UInt8} (h : p c = false) : zbr p (c :: u) = 0 := by
  unfold zbr
  rw [List.takeWhile_cons, h]; rfl
theorem zqn {u : List UInt8} (h : Bd u) : zbr isPt u = 0 := by
  cases u with
  | nil => rfl
  | cons c r => exact zpJ h
structure Sp (a : Tk) (w : List UInt8) : Prop where
  ne : w ≠ []
  nw : ∀ c ∈ w, isWh c = false
  cls : a.1 ≠ 0
  sc : ∀ r, (a.1 = 4 ∨ Bd r) -> zea 0 (w ++ r) = (a.1, 0, ((w.length : Nat) : Int), a.2.1, a.2.2, ())
inductive Lex : List UInt8 -> List Tk -> Prop
  | nil {ws : List UInt8} (h : ∀ c ∈ ws, isWh c = true) : Lex ws []
  | tok {ws w r : List UInt8} {a : Tk} {l : List Tk} (h : ∀ c ∈ ws, isWh c = true) (hw : Sp a w) (hb : a.1 = 4 ∨ Bd r) (hr : Lex r l) : Lex (ws ++ (w ++ r)) (a :: l)
theorem Lex.ws {ws u : List UInt8} {l : List Tk} (h : ∀ c ∈ ws, isWh c = true) (hu : Lex u l) : Lex (ws ++ u) l := by
  cases hu with
  | nil h2 => exact .nil fun c hc => (List.mem_append.1 hc).elim (h c) (h2 c)
  | tok h2 hw hb hr =>
    rw [<- List.append_assoc]
    exact .tok (fun c hc => (List.mem_append.1 hc).elim (h c) (h2 c)) hw hb hr
theorem Lex.sp {u : List UInt8} {l : List Tk} (hu : Lex u l) : Lex (32 :: u) l := Lex.ws (ws := [32]) (fun c hc => by rw [List.mem_singleton.1 hc]; rfl) hu
theorem Lex.app {u : List UInt8} {l : List Tk} (hu : Lex u l) {v : List UInt8} {m : List Tk} (hv : Lex v m) (hb : Bd v) : Lex (u ++ v) (l ++ m) := by
  induction hu with
  | nil h => exact hv.ws h
  | tok h hw hb' _ ih =>
    rw [List.append_assoc, List.append_assoc]
    refine .tok h hw ?_ ih
    rcases hb' with h4 | hb'
    · exact .inl h4
    · exact .inr (hb'.app hb)
theorem Sp.lex {a : Tk} {w : List UInt8} (h : Sp a w) : Lex w [a] := by
  have := Lex.tok (ws := []) (r := []) (l := []) (fun c hc => by cases hc) h (.inr trivial) (.nil fun c hc => by cases hc)
  rwa [List.nil_append, List.append_nil] at this
theorem Sp.lexR {a : Tk} {w : List UInt8} (h : Sp a w) {r : List UInt8} {l : List Tk} (hb : a.1 = 4 ∨ Bd r) (hr : Lex r l) : Lex (w ++ r) (a :: l) := by
  have := Lex.tok (ws := []) (fun c hc => by cases hc) h hb hr
  rwa [List.nil_append] at this
theorem zo3 {u : List UInt8} {l : List Tk} (h : Lex u l) : ∀ (s p : List UInt8), s = p ++ u -> Toks s ((p.length : Nat) : Int) l := by
  induction h with
  | @nil ws h =>
    intro s p hs
    show Tok.cls (zdF s _) = 0
    unfold zdF
    rw [hs, Int.toNat_natCast, List.drop_left, zmD]
    have e : zbr isWh ws = ws.length := by
      have := zhN (u := []) h
      rw [List.append_nil] at this
      rw [this]; rfl
    rw [e, List.drop_length]
    rfl
  | @tok ws w r a l h hw hb hr ih =>
    intro s p hs
    have hd : s.drop p.length = ws ++ (w ++ r) := by rw [hs, List.drop_left]
    have e : zbr isWh (ws ++ (w ++ r)) = ws.length := by
      rw [zhN h]
      cases w with
      | nil => exact absurd rfl hw.ne
      | cons c q =>
        rw [List.cons_append, zpJ (hw.nw c (List.mem_cons_self ..))]; rfl
    have hsc : zdF s ((p.length : Nat) : Int) = (a.1, ((ws.length : Nat) : Int) + ((p.length : Nat) : Int), ((w.length : Nat) : Int), a.2.1, a.2.2, ()) := by
      unfold zdF
      rw [Int.toNat_natCast, hd, zmD, e, List.drop_left, zoA, hw.sc r hb]
      rfl
    refine ⟨?_, ?_, ?_⟩
    · rw [hsc]; exact hw.cls
    · rw [hsc]; rfl
    · rw [hsc]
      have := ih s (p ++ ws ++ w) (by rw [hs]; simp)
      rw [List.length_append, List.length_append] at this
      show Toks s (((ws.length : Nat) : Int) + ((p.length : Nat) : Int) + ((w.length : Nat) : Int)) l
      rwa [show ((ws.length : Nat) : Int) + ((p.length : Nat) : Int) + ((w.length : Nat) : Int) = ((p.length + ws.length + w.length : Nat) : Int) by omega]
theorem zle {p : UInt8 -> Bool} (h : ∀ n : Fin 256, p (UInt8.ofNat n.val) = true) (c : UInt8) : p c = true := by
  have := h ⟨c.toNat, c.toNat_lt⟩
  rwa [UInt8.ofNat_toNat] at this
theorem pt_wh (c : UInt8) (h : isPt c = true) : isWh c = false := by
  have := zle (p := fun c => !isPt c || !isWh c) (by decide +kernel) c
  rw [h] at this
  simpa using this
theorem zf3 (c : UInt8) (h : isDg c = true) : isPt c = true ∧ isLt c = false ∧ isWh c = false ∧ c ≠ 64 ∧ c ≠ 45 ∧ c ≠ 40 ∧ c ≠ 41 ∧ c ≠ 61 := by
  have := zle (p := fun c => !isDg c || (isPt c && !isLt c && !isWh c && (c != 64) && (c != 45) && (c != 40) && (c != 41) && (c != 61))) (by decide +kernel) c
  rw [h] at this
  simp only [Bool.not_true, Bool.false_or, Bool.and_eq_true, Bool.not_eq_true', bne_iff_ne] at this
  exact ⟨this.1.1.1.1.1.1.1, this.1.1.1.1.1.1.2, this.1.1.1.1.1.2, this.1.1.1.1.2, this.1.1.1.2, this.1.1.2, this.1.2, this.2⟩
theorem zfz {w r : List UInt8} (hne : w ≠ []) (h1 : w.head?.all isLt = true) (h2 : ∀ c ∈ w, isPt c = true) (hb : Bd r) : zav (w ++ r) = w.length := by
  cases w with
  | nil => exact absurd rfl hne
  | cons c q =>
    have hc : isLt c = true := h1
    show (if isLt c then zbr isPt (c :: q ++ r) else 0) = _
    rw [if_pos hc, zhN h2, zqn hb]; rfl
theorem zqo {w : List UInt8} (hne : w ≠ []) (h1 : w.head?.all isLt = true) (h2 : ∀ c ∈ w, isPt c = true) : Sp (tkW w) w := by
  refine ⟨hne, fun c hc => pt_wh c (h2 c hc), by show (1 : Int) ≠ 0; decide, fun r hb => ?_⟩
  have hb : Bd r := hb.resolve_left (by show (1 : Int) ≠ 4; decide)
  have hl := zfz hne h1 h2 hb
  have hp : 0 < w.length := List.length_pos_iff.2 hne
  cases w with
  | nil => exact absurd rfl hne
  | cons c q =>
    show zea 0 (c :: (q ++ r)) = _
    unfold zea
    have hl : zav (c :: (q ++ r)) = (c :: q).length := hl
    simp only []
    rw [hl, if_pos hp]
    show (1, 0, _, (c :: q ++ r).take (c :: q).length, 0, ()) = _
    rw [List.take_left]; rfl
theorem sp_ref {w : List UInt8} (h : zeO w = true) : Sp (tkR w) (64 :: w) := by
  unfold zeO at h
  simp only [Bool.and_eq_true, decide_eq_true_iff, List.all_eq_true] at h
  obtain ⟨⟨hne, _⟩, h1, h2⟩ := h
  refine ⟨by simp, fun c hc => ?_, by show (2 : Int) ≠ 0; decide, fun r hb => ?_⟩
  · rcases List.mem_cons.1 hc with rfl | hc
    · rfl
    · exact pt_wh c (h2 c hc)
  have hb : Bd r := hb.resolve_left (by show (2 : Int) ≠ 4; decide)
  have hl := zfz hne h1 h2 hb
  have hp : 0 < w.length := List.length_pos_iff.2 hne
  show zea 0 (64 :: (w ++ r)) = _
  unfold zea
  have h64 : zav (64 :: (w ++ r)) = 0 := rfl
  simp only []
  rw [h64, if_neg (by decide), hl, if_pos ⟨trivial, hp⟩, List.take_left]
  show (2, 0, ((w.length : Nat) : Int) + 1, w, 0, ()) = (2, 0, (((64 :: w).length : Nat) : Int), w, 0, ())
  rw [List.length_cons]; rfl
theorem zkx {c : UInt8} (hc : c = 40 ∨ c = 41 ∨ c = 61) : Sp (tkS c) [c] := by
  have hn : ∀ r, zcz (c :: r) = none := fun r => by
    unfold zcz
    have : (zaH (c :: r)).length = 0 := by
      unfold zaH zaL
      rcases hc with rfl | rfl | rfl <;> rfl
    rw [if_pos this]
  refine ⟨by simp, fun d hd => ?_, by show (4 : Int) ≠ 0; decide, fun r _ => ?_⟩
  · rw [List.mem_singleton.1 hd]
    rcases hc with rfl | rfl | rfl <;> rfl
  show zea 0 (c :: r) = _
  unfold zea
  have h0 : zav (c :: r) = 0 := by rcases hc with rfl | rfl | rfl <;> rfl
  have h64 : c ≠ 64 := by rcases hc with rfl | rfl | rfl <;> decide
  simp only []
  rw [h0, if_neg (by decide), if_neg (fun h => h64 h.1), hn, if_pos hc]
  rfl
theorem zm3 (l : List UInt8) (c : UInt8) : numv (l ++ [c]) = 10 * numv l + (c.toNat - 48) := by unfold numv; rw [List.foldl_append]; rfl
theorem zk8 {d : Nat} (h : d < 10) : isDg (UInt8.ofNat (48 + d)) = true ∧ (UInt8.ofNat (48 + d)).toNat = 48 + d := by
  have e : (UInt8.ofNat (48 + d)).toNat = 48 + d := by rw [UInt8.toNat_ofNat']; exact Nat.mod_eq_of_lt (by omega)
  refine ⟨?_, e⟩
  unfold isDg
  rw [Bool.and_eq_true, decide_eq_true_iff, decide_eq_true_iff, UInt8.le_iff_toNat_le, UInt8.le_iff_toNat_le, e]
  exact ⟨by show 48 ≤ _; omega, by show _ ≤ 57; omega⟩
theorem zjq (u : Nat) : (∀ c ∈ Lib.decDigits u, isDg c = true) ∧ numv (Lib.decDigits u) = u ∧ (1 ≤ u -> (Lib.decDigits u).head? ≠ some 48) ∧ Lib.decDigits u ≠ [] := by
  induction u using Nat.strongRecOn with
  | _ u ih =>
    rw [Lib.decDigits]
    by_cases hu : u < 10
    · rw [dif_pos hu]
      obtain ⟨h1, h2⟩ := zk8 hu
      refine ⟨fun c hc => by rw [List.mem_singleton.1 hc]; exact h1, ?_, fun h0 e => ?_, by simp⟩
      · show 10 * 0 + ((UInt8.ofNat (48 + u)).toNat - 48) = u
        rw [h2]; omega
      · have e : some (UInt8.ofNat (48 + u)) = some 48 := e
        have := congrArg UInt8.toNat (Option.some.inj e)
        rw [h2] at this
        have : 48 + u = 48 := this
        omega
    · rw [dif_neg hu]
      obtain ⟨i1, i2, i3, i4⟩ := ih (u / 10) (by omega)
      obtain ⟨h1, h2⟩ := zk8 (d := u % 10) (by omega)
      refine ⟨fun c hc => ?_, ?_, fun _ e => ?_, by simp⟩
      · rcases List.mem_append.1 hc with hc | hc
        · exact i1 c hc
        · rw [List.mem_singleton.1 hc]; exact h1
      · rw [zm3, i2, h2]; omega
      · refine i3 (by omega) ?_
        cases hd : Lib.decDigits (u / 10) with
        | nil => exact absurd hd i4
        | cons c q => rw [hd] at e; exact e
theorem zmr {w r : List UInt8} (h : ∀ c ∈ w, isDg c = true) (hb : Bd r) : (w ++ r).takeWhile isDg = w := by
  rw [List.takeWhile_append_of_pos h]
  have : r.takeWhile isDg = [] := by
    cases r with
    | nil => rfl
    | cons c q =>
      have hb : isPt c = false := hb
      rw [List.takeWhile_cons]
      have : isDg c = false := by
        cases hd : isDg c with
        | false => rfl
        | true => rw [(zf3 c hd).1] at hb; cases hb
      rw [this]; rfl
  rw [this, List.append_nil]
def zen (n : Int) : Prop := -1125899906842624 < n ∧ n < 1125899906842624
theorem zmu {n : Int} (h : zen n) : Sp (tkN n) (deI n) := by
  obtain ⟨h1, h2⟩ := h
  unfold deI Lib.itoa
  by_cases hn : n < 0
  · obtain ⟨d1, d2, d3, d4⟩ := zjq n.natAbs
    have d3 := d3 (by omega)
    generalize hD : Lib.decDigits n.natAbs = D at *
    have hde : deI n = 45 :: D := by unfold deI Lib.itoa; rw [if_pos hn, hD]
    rw [if_pos hn]
    refine ⟨by simp, fun c hc => ?_, by show (3 : Int) ≠ 0; decide, fun r hb => ?_⟩
    · rcases List.mem_cons.1 hc with rfl | hc
      · rfl
      · exact (zf3 c (d1 c hc)).2.2.1
    have hb : Bd r := hb.resolve_left (by show (3 : Int) ≠ 4; decide)
    have hlen : 0 < D.length := List.length_pos_iff.2 d4
    have hs : zaL (45 :: (D ++ r)) = 1 := rfl
    have hg : zaH (45 :: (D ++ r)) = D := by
      unfold zaH
      rw [hs]
      exact zmr d1 hb
    have hv : valN (45 :: (D ++ r)) = n := by
      unfold valN
      rw [hs, if_pos rfl, hg, d2, Nat.min_eq_left (by unfold zcN; omega)]
      omega
    show zea 0 (45 :: (D ++ r)) = _
    unfold zea
    simp only []
    rw [show zav (45 :: (D ++ r)) = 0 from rfl, if_neg (by decide), if_neg (fun h => absurd h.1 (by decide))]
    have hnt : zcz (45 :: (D ++ r)) = some (3, 1 + D.length, (45 :: (D ++ r)).take (1 + D.length), n) := by
      unfold zcz
      rw [hg, hs, hv, if_neg (by omega), if_neg (fun h => d3 h.1)]
    rw [hnt]
    have ht : (45 :: (D ++ r)).take (1 + D.length) = 45 :: D := by
      rw [Nat.add_comm, List.take_succ_cons, List.take_left]
    show (3, 0, ((1 + D.length : Nat) : Int), (45 :: (D ++ r)).take (1 + D.length), n, ()) = (3, 0, (((45 :: D).length : Nat) : Int), deI n, n, ())
    rw [ht, hde, List.length_cons, Nat.add_comm]
  · obtain ⟨d1, d2, d3, d4⟩ := zjq n.toNat
    have hz : n.toNat = 0 -> Lib.decDigits n.toNat = [48] := fun e => by rw [e, Lib.decDigits]; rfl
    generalize hD : Lib.decDigits n.toNat = D at *
    have hde : deI n = D := by unfold deI Lib.itoa; rw [if_neg hn, hD]
    rw [if_neg hn]
    refine ⟨d4, fun c hc => (zf3 c (d1 c hc)).2.2.1, by show (3 : Int) ≠ 0; decide, fun r hb => ?_⟩
    have hb : Bd r := hb.resolve_left (by show (3 : Int) ≠ 4; decide)
    have hlen : 0 < D.length := List.length_pos_iff.2 d4
    cases D with
    | nil => exact absurd rfl d4
    | cons c q =>
      have hdg := d1 c (List.mem_cons_self ..)
      obtain ⟨_, f1, _, f2, f3, _⟩ := zf3 c hdg
      have hs : zaL (c :: (q ++ r)) = 0 := by
        unfold zaL
        exact if_neg (fun e => f3 (Option.some.inj e))
      have hg : zaH (c :: (q ++ r)) = c :: q := by
        unfold zaH
        rw [hs]
        exact zmr (w := c :: q) d1 hb
      have hv : valN (c :: (q ++ r)) = n := by
        unfold valN
        rw [hs, if_neg (by decide), hg, d2, Nat.min_eq_left (by unfold zcN; omega)]
        omega
      show zea 0 (c :: (q ++ r)) = _
      unfold zea
      simp only []
      rw [show zav (c :: (q ++ r)) = 0 by show (if isLt c then zbr isPt (c :: (q ++ r)) else 0) = 0; rw [f1]; rfl, if_neg (by decide), if_neg (fun h => f2 h.1)]
      have hnt : zcz (c :: (q ++ r)) = some (3, 0 + (c :: q).length, (c :: (q ++ r)).take (0 + (c :: q).length), n) := by
        unfold zcz
        rw [hg, hs, hv, if_neg (by omega), if_neg]
        rintro ⟨e1, e2⟩
        by_cases h0 : n.toNat = 0
        · have e3 : q = [] := by have := hz h0; exact (List.cons.inj this).2
          rw [e3] at e2
          have e2 : 1 < 0 + 1 := e2
          omega
        · exact d3 (by omega) e1
      rw [hnt]
      have ht : (c :: (q ++ r)).take (0 + (c :: q).length) = c :: q := by
        rw [Nat.zero_add]
        exact List.take_left (l₁ := c :: q)
      show (3, 0, ((0 + (c :: q).length : Nat) : Int), (c :: (q ++ r)).take (0 + (c :: q).length), n, ()) = (3, 0, (((c :: q).length : Nat) : Int), deI n, n, ())
      rw [ht, hde, Nat.zero_add]
theorem zb5 : ∀ l : List Int, (∀ x ∈ l, zen x) -> Lex (zdB l) (l.map tkN) ∧ Bd (zdB l)
  | [], _ => ⟨.nil (fun c hc => (by cases hc)), trivial⟩
  | x :: r, h => by
    obtain ⟨h1, h2⟩ := zb5 r fun y hy => h y (List.mem_cons_of_mem _ hy)
    refine ⟨?_, rfl⟩
    show Lex (32 :: deI x ++ zdB r) (tkN x :: r.map tkN)
    exact ((zmu (h x (List.mem_cons_self ..))).lexR (.inr h2) h1).sp
theorem znl : ∀ (l : List Int) (i : Nat), (∀ x ∈ l, zen x) -> Lex (litS (i + 1) l ++ [41]) (l.map tkN ++ [tkS 41]) ∧ Bd (litS (i + 1) l ++ [41])
  | [], _, _ => ⟨(zkx (.inr (.inl rfl))).lex, rfl⟩
  | x :: r, i, h => by
    obtain ⟨h1, h2⟩ := znl r (i + 1) fun y hy => h y (List.mem_cons_of_mem _ hy)
    have e : litS (i + 1) (x :: r) ++ [41] = 32 :: (deI x ++ (litS (i + 1 + 1) r ++ [41])) := by
      show (sepS (i + 1) ++ deI x ++ litS (i + 1 + 1) r) ++ [41] = _
      simp [sepS]
    rw [e]
    exact ⟨((zmu (h x (List.mem_cons_self ..))).lexR (.inr h2) h1).sp, rfl⟩
theorem zdr {l : List Int} (hne : l ≠ []) (h : ∀ x ∈ l, zen x) : Lex (zb0 l) (zcJ l) ∧ Bd (zb0 l) := by
  cases l with
  | nil => exact absurd rfl hne
  | cons x r =>
    obtain ⟨h1, h2⟩ := znl r 0 fun y hy => h y (List.mem_cons_of_mem _ hy)
    have e : zb0 (x :: r) = 32 :: ([40] ++ (deI x ++ (litS (0 + 1) r ++ [41]))) := by
      show (sepS 0 ++ deI x ++ litS (0 + 1) r) ++ [41] = _
      simp [sepS]
    rw [e]
    exact ⟨((zkx (.inl rfl)).lexR (.inl rfl) ((zmu (h x (List.mem_cons_self ..))).lexR (.inr h2) h1)).sp, rfl⟩
theorem za0 {w : List UInt8} (hne : w ≠ []) (h1 : w.head?.all isLt = true) (h2 : w.all isPt = true) {r : List UInt8} {l : List Tk} (hr : Lex r l) (hb : Bd r) : Lex (w ++ r) (tkW w :: l) :=
  (zqo hne h1 (List.all_eq_true.1 h2)).lexR (.inr hb) hr
theorem zi3 (n : Int) {r : List UInt8} {l : List Tk} (hr : Lex r l) (hb : Bd r) : Lex (zcg n ++ r) (zdE n :: l) ∧ Bd (zcg n ++ r) := by
  unfold zcg zdE
  split
  · exact ⟨(za0 (by decide) rfl (by decide) hr hb).sp, rfl⟩
  · exact ⟨(za0 (by decide) rfl (by decide) hr hb).sp, rfl⟩
theorem zqE : Lex [] [] := .nil fun c hc => by cases hc
theorem zgw {c : Bool} {u : List UInt8} {l : List Tk} (h : Lex u l) : Lex (parS c u) (parT c l) := by
  cases c with
  | true => exact h
  | false => exact (zkx (.inl rfl)).lexR (.inl rfl) (h.app (zkx (.inr (.inl rfl))).lex rfl)
def Tr.text : Tr -> List UInt8
  | .leaf n => zdL n
  | .un n a => parS (decide (a.lev ≥ 4)) a.text ++ zcr [] n
  | .bin n a b => if ndK n = 17 then parS (decide (a.lev ≥ 4)) a.text ++ zcr (parS (decide (b.lev ≥ 5)) b.text) n
    else parS (decide (a.lev ≥ levS (ndK n))) a.text ++ (putS ([32] ++ opWd (levS (ndK n)) ++ [32]) [] ++ parS (decide (b.lev ≥ levS (ndK n) + 1)) b.text)
theorem zb7 {lo hi : Int} {z : Bool} (h1 : -1125899906842624 < lo) (h2 : hi < 1125899906842624) : ∀ {l : List Int} {last : Int}, Ris lo hi z last l -> ∀ x ∈ l, zen x
  | [], _, _, x, hx => by cases hx
  | y :: r, _, h, x, hx => by
    obtain ⟨_, a, b, _, h⟩ := h
    rcases List.mem_cons.1 hx with rfl | hx
    · exact ⟨by omega, by omega⟩
    · exact zb7 h1 h2 h x hx
theorem num1 {a : Int} (h : zen a) : ∀ x ∈ [a], zen x := fun x hx => by rw [List.mem_singleton.1 hx]; exact h
theorem num2 {a b : Int} (h : zen a) (h' : zen b) : ∀ x ∈ [a, b], zen x := fun x hx => by
  rcases List.mem_cons.1 hx with rfl | hx
  · exact h
  · exact num1 h' x hx
theorem num3 {a b c : Int} (h : zen a) (h' : zen b) (h'' : zen c) : ∀ x ∈ [a, b, c], zen x := fun x hx => by
  rcases List.mem_cons.1 hx with rfl | hx
  · exact h
  · exact num2 h' h'' x hx
theorem nt {a lo hi : Int} (h : lo ≤ a ∧ a ≤ hi) (h1 : -1125899906842624 < lo := by decide) (h2 : hi < 1125899906842624 := by decide) : zen a := ⟨by omega, by omega⟩
theorem zo4 {n : Nd} (h1 : zbA n = true) (h2 : ¬ (8 ≤ ndK n ∧ ndK n ≤ 17)) : Lex (zdL n) (zi4 n) := by
  obtain ⟨⟨k1, k2⟩, _⟩ := zaF h1
  unfold zdL zi4
  rcases (show ndK n = 1 ∨ ndK n = 2 ∨ ndK n = 3 ∨ ndK n = 4 ∨ ndK n = 5 ∨ ndK n = 6 ∨ ndK n = 7 ∨ ndK n = 18 by omega) with k | k | k | k | k | k | k | k <;> rw [k]
  · obtain ⟨e, b1, b2⟩ := fld1 h1 k
    obtain ⟨x, y⟩ := zb5 [ndN n, ndM n] (num2 (nt b1) (nt b2))
    exact za0 (w := ziz) (by decide) rfl (by decide) x y
  · obtain ⟨e, b0, b1, b2⟩ := fld2 h1 k
    obtain ⟨x, y⟩ := zb5 [ndC n, ndN n, ndM n] (num3 (nt b0) (nt b1) ⟨by omega, by omega⟩)
    exact za0 (w := zfB) (by decide) rfl (by decide) x y
  · obtain ⟨e, b0, b1, b2, b3⟩ := fld3 h1 k
    obtain ⟨x, y⟩ := zb5 [ndC n] (num1 (nt b0))
    obtain ⟨x2, y2⟩ := zdr b1 (zb7 (by decide) (by decide) b3)
    have := za0 (w := zce) (by decide) rfl (by decide) (x.app x2 y2) (y.app y2)
    rwa [<- List.append_assoc] at this
  · obtain ⟨e, b0, b1, b2, b3⟩ := fld4 h1 k
    obtain ⟨x, y⟩ := zb5 [ndC n] (num1 (nt b0))
    obtain ⟨x2, y2⟩ := zdr b1 (zb7 (by decide) (by decide) b3)
    have := za0 (w := zaZ) (by decide) rfl (by decide) (x.app x2 y2) (y.app y2)
    rwa [<- List.append_assoc] at this
  · obtain ⟨e, b1, b2, b3⟩ := fld5 h1 k
    obtain ⟨x2, y2⟩ := zdr b1 (zb7 (by decide) (by decide) b3)
    exact za0 (w := zbh) (by decide) rfl (by decide) x2 y2
  · obtain ⟨e, b0, b1, b2, b3⟩ := fld6 h1 k
    obtain ⟨x, y⟩ := zb5 [ndC n] (num1 (nt b0))
    obtain ⟨x2, y2⟩ := zdr b1 (zb7 (by decide) (by decide) b3)
    have := za0 (w := zc4) (by decide) rfl (by decide) (x.app x2 y2) (y.app y2)
    rwa [<- List.append_assoc] at this
  · obtain ⟨e, b0, b1, bz, b2, b3⟩ := fld7 h1 k
    obtain ⟨x, y⟩ := zb5 [ndC n, ndN n, ndM n] (num3 (nt b0) (nt b1) (nt b2))
    obtain ⟨x2, y2⟩ := zi3 (ndL n) zqE trivial
    have := za0 (w := wNth) (by decide) rfl (by decide) (x.app x2 y2) (y.app y2)
    rw [<- List.append_assoc] at this
    exact this
  · obtain ⟨e, b0⟩ := zq0 h1 k
    show Lex ((64 :: ndS n) ++ []) [tkR (ndS n)]
    rw [List.append_nil]
    exact (sp_ref b0).lex
theorem znk {n : Nd} {b : List UInt8} {B : List Tk} (h1 : zbA n = true) (h2 : 11 ≤ ndK n ∧ ndK n ≤ 17) (hB : ndK n = 17 -> Lex b B) : Lex (zcr b n) (zhK B n) ∧ Bd (zcr b n) := by
  unfold zcr zhK
  rcases (show ndK n = 11 ∨ ndK n = 12 ∨ ndK n = 13 ∨ ndK n = 14 ∨ ndK n = 15 ∨ ndK n = 16 ∨ ndK n = 17 by omega) with k | k | k | k | k | k | k <;> rw [k]
  · obtain ⟨e, b1⟩ := zq7 h1 k
    obtain ⟨x, y⟩ := zb5 [ndN n] (num1 (nt b1))
    exact ⟨(za0 (w := zey) (by decide) rfl (by decide) x y).sp, rfl⟩
  · obtain ⟨e, b1⟩ := zq6 h1 k
    obtain ⟨x, y⟩ := zb5 [ndN n] (num1 (nt b1))
    exact ⟨(za0 (w := zhH) (by decide) rfl (by decide) x y).sp, rfl⟩
  · obtain ⟨e, b1⟩ := zq5 h1 k
    obtain ⟨x, y⟩ := zb5 [ndN n] (num1 (nt b1))
    exact ⟨(za0 (w := zex) (by decide) rfl (by decide) x y).sp, rfl⟩
  · obtain ⟨e, b1, b2, b3⟩ := zq4 h1 k
    obtain ⟨x2, y2⟩ := zdr b1 (zb7 (by decide) (by decide) b3)
    exact ⟨(za0 (w := zeA) (by decide) rfl (by decide) x2 y2).sp, rfl⟩
  · obtain ⟨e, b1, b2, b3⟩ := zq3 h1 k
    obtain ⟨x2, y2⟩ := zdr b1 (zb7 (by decide) (by decide) b3)
    exact ⟨(za0 (w := zcf) (by decide) rfl (by decide) x2 y2).sp, rfl⟩
  · obtain ⟨e, b0, ⟨b1, b2, b3⟩, b4⟩ := zq2 h1 k
    obtain ⟨x, y⟩ := zb5 [ndC n] (num1 (nt b0))
    obtain ⟨x2, y2⟩ := zdr b1 (zb7 (by decide) (by decide) b3)
    obtain ⟨x3, y3⟩ := zi3 (ndM n) x2 y2
    refine ⟨?_, rfl⟩
    show Lex ((32 :: wPos) ++ zdB [ndC n] ++ ((zcg (ndM n) ++ []) ++ zb0 (ndI n))) _
    rw [List.append_nil, List.append_assoc]
    exact (za0 (w := wPos) (by decide) rfl (by decide) (x.app x3 y3) (y.app y3)).sp
  · obtain ⟨e, b1⟩ := zq1 h1 k
    obtain ⟨x, y⟩ := zb5 [ndN n] (num1 (nt b1))
    refine ⟨?_, rfl⟩
    show Lex ((32 :: zbQ) ++ zdB [ndN n] ++ (((32 :: wOf) ++ [32] ++ []) ++ b)) _
    rw [List.append_nil, List.append_assoc, List.append_assoc]
    have x3 : Lex (32 :: (wOf ++ ([32] ++ b))) (tkW wOf :: B) := (za0 (w := wOf) (by decide) rfl (by decide) (hB k).sp rfl).sp
    exact (za0 (w := zbQ) (by decide) rfl (by decide) (x.app x3 rfl) (y.app rfl)).sp
theorem zd3 : ∀ t : Tr, TrOk t -> Lex t.text t.toks
  | .leaf n, h => zo4 h.1 h.2.1
  | .un n a, h => by
    obtain ⟨h1, hk, _, ha⟩ := h
    obtain ⟨x, y⟩ := znk (b := []) (B := []) h1 (by omega) (fun e => by omega)
    exact (zgw (zd3 a ha)).app x y
  | .bin n a b, h => by
    obtain ⟨h1, hk, _, ha, hb⟩ := h
    unfold Tr.text Tr.toks
    split
    · rename_i h17
      obtain ⟨x, y⟩ := znk (n := n) h1 (by omega) (fun _ => zgw (c := decide (b.lev ≥ 5)) (zd3 b hb))
      exact (zgw (zd3 a ha)).app x y
    · rename_i h17
      have hl : levS (ndK n) = 1 ∨ levS (ndK n) = 2 ∨ levS (ndK n) = 3 := by
        rcases (show ndK n = 8 ∨ ndK n = 9 ∨ ndK n = 10 by omega) with k | k | k <;> rw [k]
        · exact .inr (.inr rfl)
        · exact .inl rfl
        · exact .inr (.inl rfl)
      have hB := zgw (c := decide (b.lev ≥ levS (ndK n) + 1)) (zd3 b hb)
      generalize parS (decide (b.lev ≥ levS (ndK n) + 1)) b.text = v at hB ⊢
      generalize parT (decide (b.lev ≥ levS (ndK n) + 1)) b.toks = m at hB ⊢
      have hw : Lex (putS ([32] ++ opWd (levS (ndK n)) ++ [32]) [] ++ v) (tkW (opWd (levS (ndK n))) :: m) ∧ Bd (putS ([32] ++ opWd (levS (ndK n)) ++ [32]) [] ++ v) := by
        have e : putS ([32] ++ opWd (levS (ndK n)) ++ [32]) [] ++ v = 32 :: (opWd (levS (ndK n)) ++ (32 :: v)) := by
          show (([32] ++ opWd (levS (ndK n)) ++ [32]) ++ []) ++ v = _
          simp
        rw [e]
        refine ⟨?_, rfl⟩
        rcases hl with hl | hl | hl <;> rw [hl]
        · exact (za0 (w := wOr) (by decide) rfl (by decide) hB.sp rfl).sp
        · exact (za0 (w := zkt) (by decide) rfl (by decide) hB.sp rfl).sp
        · exact (za0 (w := wAnd) (by decide) rfl (by decide) hB.sp rfl).sp
      exact (zgw (zd3 a ha)).app hw.1 hw.2
theorem zqt {t : Tr} (h : TrOk t) : Qt 0 t.toks t := (zec t h).up (Nat.zero_le _) (by have := zj1 (ndK t.root); unfold levI Tr.lev; omega)
theorem zlK {t : Tr} (h : TrOk t) (hs : t.size ≤ 64) : zee t.text = .ok t := q_rule (zqt h) hs (zo3 (zd3 t h) _ [] rfl)
def opsN (n : Nd) : Int := (zdc (ndK n)).1
def zem (n : Nd) (i : Int) : Bool :=
  (bif decide (0 < opsN n) then inB (ndL n) 0 (i - 1) else (ndL n == 0) || (ndK n == 7)) && (bif decide (1 < opsN n) then inB (ndR n) 0 (i - 1) else ndR n == 0)
def bump (u : List Int) (j : Int) : List Int := u.set j.toNat (u.getD j.toNat 0 + 1)
def zcn (u : List Int) (n : Nd) : List Int :=
  bif decide (1 < opsN n) then bump (bump u (ndL n)) (ndR n) else bif decide (0 < opsN n) then bump u (ndL n) else u
def zbY (r : List Nd) (k : Nat) : List Int := (r.take k).foldl zcn (List.replicate r.length 0)
def zfK (n : Nd) (i : Int) : Bool := zbA n && zem n i
def zcF (r : List Nd) : Nat -> Bool
  | 0 => true
  | k + 1 => zcF r k && zfK (r.getD k zNd) (k : Int)
def wfS (r : List Nd) : Bool := decide (1 ≤ r.length) && decide (r.length ≤ 64) && zcF r r.length && !((zbY r r.length).take (r.length - 1)).any not1
def zcR (r : List Nd) : Int := if 64 < r.length ∨ r.any bigN = true then 2 else if wfS r = true then 0 else 1
theorem zep {r : List Nd} : ∀ {k : Nat}, zcF r k = true ↔ ∀ j, j < k -> zfK (r.getD j zNd) (j : Int) = true
  | 0 => ⟨fun _ j h => by omega, fun _ => rfl⟩
  | k + 1 => by
    unfold zcF
    rw [Bool.and_eq_true, zep (k := k)]
    constructor
    · rintro ⟨h1, h2⟩ j hj
      by_cases e : j = k
      · rw [e]; exact h2
      · exact h1 j (by omega)
    · exact fun h => ⟨fun j hj => h j (by omega), h k (by omega)⟩
theorem zlS (r : List Nd) (j : Nat) : zas r (j : Int) = r.getD j zNd := rfl
theorem zm2 {n : Nd} (h : 11 ≤ ndK n ∧ ndK n ≤ 16) : opsN n = 1 := by
  unfold opsN
  rcases (show ndK n = 11 ∨ ndK n = 12 ∨ ndK n = 13 ∨ ndK n = 14 ∨ ndK n = 15 ∨ ndK n = 16 by omega) with k | k | k | k | k | k <;> rw [k] <;> rfl
theorem zjU {n : Nd} (h : (8 ≤ ndK n ∧ ndK n ≤ 10) ∨ ndK n = 17) : opsN n = 2 := by
  unfold opsN
  rcases (show ndK n = 8 ∨ ndK n = 9 ∨ ndK n = 10 ∨ ndK n = 17 by omega) with k | k | k | k <;> rw [k] <;> rfl
theorem zhY {n : Nd} (h1 : 1 ≤ ndK n ∧ ndK n ≤ 18) (h : ¬ (8 ≤ ndK n ∧ ndK n ≤ 17)) : opsN n = 0 := by
  unfold opsN
  rcases (show ndK n = 1 ∨ ndK n = 2 ∨ ndK n = 3 ∨ ndK n = 4 ∨ ndK n = 5 ∨ ndK n = 6 ∨ ndK n = 7 ∨ ndK n = 18 by omega) with k | k | k | k | k | k | k | k <;> rw [k] <;> rfl
theorem zpN {n : Nd} {i : Int} (h : 11 ≤ ndK n ∧ ndK n ≤ 16) : zem n i = true ↔ (0 ≤ ndL n ∧ ndL n ≤ i - 1) ∧ ndR n = 0 := by
  unfold zem
  rw [zm2 h, decide_eq_true (by decide), decide_eq_false (by decide), cond_true, cond_false, Bool.and_eq_true, zaJ, beq_iff_eq]
theorem zjV {n : Nd} {i : Int} (h : (8 ≤ ndK n ∧ ndK n ≤ 10) ∨ ndK n = 17) : zem n i = true ↔ (0 ≤ ndL n ∧ ndL n ≤ i - 1) ∧ (0 ≤ ndR n ∧ ndR n ≤ i - 1) := by
  unfold zem
  rw [zjU h, decide_eq_true (by decide), decide_eq_true (by decide), cond_true, cond_true, Bool.and_eq_true, zaJ, zaJ]
theorem zoU {n : Nd} {i : Int} (h1 : 1 ≤ ndK n ∧ ndK n ≤ 18) (h : ¬ (8 ≤ ndK n ∧ ndK n ≤ 17)) : zem n i = true ↔ (ndL n = 0 ∨ ndK n = 7) ∧ ndR n = 0 := by
  unfold zem
  rw [zhY h1 h, decide_eq_false (by decide), decide_eq_false (by decide), cond_false, cond_false, Bool.and_eq_true, Bool.or_eq_true, beq_iff_eq, beq_iff_eq, beq_iff_eq]
theorem zk3 {n : Nd} (h : 8 ≤ ndK n ∧ ndK n ≤ 17) (l r : Int) : zbA (zfQ n l r) = zbA n := by
  have h7 : zcE (zfQ n l r) = zcE n := by
    unfold zcE
    have hk : (zfQ n l r).1 = n.1 := rfl
    have h7 : (n.1 == 7) = false := beq_eq_false_iff_ne.2 fun e => by have : ndK n = 7 := e; omega
    rw [hk, h7]
    rfl
  unfold zbA
  rw [h7]
  rfl
def trF : Nat -> List Nd -> Int -> Tr
  | 0, r, i => .leaf (zas r i)
  | k + 1, r, i =>
    if 11 ≤ ndK (zas r i) ∧ ndK (zas r i) ≤ 16 then .un (zfQ (zas r i) 0 0) (trF k r (ndL (zas r i)))
    else if (8 ≤ ndK (zas r i) ∧ ndK (zas r i) ≤ 10) ∨ ndK (zas r i) = 17 then .bin (zfQ (zas r i) 0 0) (trF k r (ndL (zas r i))) (trF k r (ndR (zas r i)))
    else .leaf (zas r i)
theorem zjI : ∀ (k : Nat) (r : List Nd) (i : Int), (trF k r i).lev = levS (ndK (zas r i))
  | 0, _, _ => rfl
  | k + 1, r, i => by
    unfold trF
    split
    · rfl
    · split <;> rfl
def Low (r : List Nd) : Prop := ∀ j : Nat, j < r.length -> (8 ≤ ndK (zas r j) -> ndK (zas r j) ≤ 17 -> 0 ≤ ndL (zas r j) ∧ ndL (zas r j) < j) ∧ (8 ≤ ndK (zas r j) -> ndK (zas r j) ≤ 10 ∨ ndK (zas r j) = 17 -> 0 ≤ ndR (zas r j) ∧ ndR (zas r j) < j)
theorem zou {n : Nd} (b : List UInt8) (h : 11 ≤ ndK n ∧ ndK n ≤ 16) : zcr b n = zcr [] (zfQ n 0 0) := by
  unfold zcr
  have hk : ndK (zfQ n 0 0) = ndK n := rfl
  rw [hk]
  rcases (show ndK n = 11 ∨ ndK n = 12 ∨ ndK n = 13 ∨ ndK n = 14 ∨ ndK n = 15 ∨ ndK n = 16 by omega) with k | k | k | k | k | k <;> rw [k] <;> rfl
theorem zkw (n : Nd) (a b : Tr) : (Tr.bin n a b).text = if ndK n = 17 then parS (decide (a.lev ≥ 4)) a.text ++ zcr (parS (decide (b.lev ≥ 5)) b.text) n
    else parS (decide (a.lev ≥ levS (ndK n))) a.text ++ (putS ([32] ++ opWd (levS (ndK n)) ++ [32]) [] ++ parS (decide (b.lev ≥ levS (ndK n) + 1)) b.text) := rfl
theorem zf0 {r : List Nd} (hl : Low r) : ∀ (k : Nat) (i : Nat), i < k -> i < r.length -> zcG k r i = (trF k r i).text
  | 0, _, h, _ => by omega
  | k + 1, i, hk, hr => by
    obtain ⟨hL, hR⟩ := hl i hr
    unfold zcG trF
    generalize hn : zas r (i : Int) = n at *
    have key : ∀ j : Int, 0 ≤ j -> j < (i : Int) -> zcG k r j = (trF k r j).text := fun j h0 h1 => by
      obtain ⟨m, rfl⟩ : ∃ m : Nat, j = (m : Int) := ⟨j.toNat, by omega⟩
      exact zf0 hl k m (by omega) (by omega)
    by_cases h11 : 11 ≤ ndK n ∧ ndK n ≤ 16
    · rw [if_pos h11, zj0 (by omega), if_neg (by decide), if_pos rfl]
      obtain ⟨a, b⟩ := hL (by omega) (by omega)
      show _ = parS (decide ((trF k r (ndL n)).lev ≥ 4)) (trF k r (ndL n)).text ++ zcr [] (zfQ n 0 0)
      rw [zjI, key _ a b, zou _ h11]
    · rw [if_neg h11]
      by_cases h8 : (8 ≤ ndK n ∧ ndK n ≤ 10) ∨ ndK n = 17
      · rw [if_pos h8]
        obtain ⟨a, b⟩ := hL (by omega) (by omega)
        obtain ⟨c, d⟩ := hR (by omega) (by omega)
        rw [key _ a b, key _ c d]
        have hk : ndK (zfQ n 0 0) = ndK n := rfl
        rw [zkw, hk, zjI, zjI]
        by_cases h17 : ndK n = 17
        · rw [if_pos h17, h17, if_neg (by decide), if_pos (by decide)]
          have : ∀ b, zcr b n = zcr b (zfQ n 0 0) := fun b => by
            unfold zcr
            rw [hk, h17]; rfl
          rw [this]
        · have hlt : levS (ndK n) < 4 := by rcases (show ndK n = 8 ∨ ndK n = 9 ∨ ndK n = 10 by omega) with k | k | k <;> rw [k] <;> decide
          rw [if_neg h17, if_pos hlt]
      · rw [if_neg h8]
        rw [zkP (by omega), if_neg (by decide), if_neg (by decide)]
        rfl
theorem zcB {r : List Nd} (h : zcF r r.length = true) {j : Nat} (hj : j < r.length) : zbA (zas r j) = true ∧ zem (zas r j) (j : Int) = true := by
  have := zep.1 h j hj
  unfold zfK at this
  rw [Bool.and_eq_true] at this
  exact this
theorem zkL {r : List Nd} (h : zcF r r.length = true) : Low r := fun j hj => by
  obtain ⟨_, h2⟩ := zcB h hj
  constructor
  · intro a b
    by_cases hu : 11 ≤ ndK (zas r j) ∧ ndK (zas r j) ≤ 16
    · have := ((zpN hu).1 h2).1; omega
    · have := ((zjV (by omega)).1 h2).1; omega
  · intro a b
    have := ((zjV (by omega)).1 h2).2; omega
theorem zmh {r : List Nd} (h : zcF r r.length = true) : ∀ (k i : Nat), i < k -> i < r.length -> TrOk (trF k r i)
  | 0, _, hk, _ => by omega
  | k + 1, i, hk, hr => by
    obtain ⟨h1, h2⟩ := zcB h hr
    obtain ⟨⟨k1, k2⟩, _⟩ := zaF h1
    have key : ∀ j : Int, 0 ≤ j -> j ≤ (i : Int) - 1 -> TrOk (trF k r j) := fun j h0 h1 => by
      obtain ⟨m, rfl⟩ : ∃ m : Nat, j = (m : Int) := ⟨j.toNat, by omega⟩
      exact zmh h k m (by omega) (by omega)
    unfold trF
    generalize zas r (i : Int) = n at *
    by_cases h11 : 11 ≤ ndK n ∧ ndK n ≤ 16
    · rw [if_pos h11]
      obtain ⟨⟨a, b⟩, _⟩ := (zpN h11).1 h2
      exact ⟨by rw [zk3 (by omega)]; exact h1, h11, ⟨rfl, rfl⟩, key _ a b⟩
    · rw [if_neg h11]
      by_cases h8 : (8 ≤ ndK n ∧ ndK n ≤ 10) ∨ ndK n = 17
      · rw [if_pos h8]
        obtain ⟨⟨a, b⟩, ⟨c, d⟩⟩ := (zjV h8).1 h2
        exact ⟨by rw [zk3 (by omega)]; exact h1, h8, ⟨rfl, rfl⟩, key _ a b, key _ c d⟩
      · rw [if_neg h8]
        have hlf : ¬ (8 ≤ ndK n ∧ ndK n ≤ 17) := by omega
        obtain ⟨a, b⟩ := (zoU ⟨k1, k2⟩ hlf).1 h2
        exact ⟨h1, hlf, b, fun e => a.resolve_right e⟩
theorem zdv (u : List Int) (j : Int) : (bump u j).length = u.length := List.length_set ..
theorem zlm (u : List Int) (n : Nd) : (zcn u n).length = u.length := by
  unfold zcn
  cases decide (1 < opsN n) <;> cases decide (0 < opsN n) <;> simp [zdv]
theorem zcu {u : List Int} {j : Int} {k : Nat} (hj : j.toNat < u.length) : (bump u j).getD k 0 = if k = j.toNat then u.getD k 0 + 1 else u.getD k 0 := by
  unfold bump
  rw [List.getD_eq_getElem?_getD, List.getElem?_set]
  by_cases e : k = j.toNat
  · subst e
    rw [if_pos rfl, if_pos rfl, if_pos hj]; rfl
  · rw [if_neg fun h => e h.symm, if_neg e, List.getD_eq_getElem?_getD]
theorem zcy (r : List Nd) (k : Nat) : (zbY r k).length = r.length := by
  unfold zbY
  have : ∀ (l : List Nd) (u : List Int), (l.foldl zcn u).length = u.length := by
    intro l
    induction l with
    | nil => intro u; rfl
    | cons n l ih => intro u; rw [List.foldl_cons, ih, zlm]
  rw [this, List.length_replicate]
theorem zcp {r : List Nd} {k : Nat} (hk : k < r.length) : zbY r (k + 1) = zcn (zbY r k) (zas r k) := by
  unfold zbY
  rw [List.take_succ_eq_append_getElem hk, List.foldl_append]
  show zcn _ r[k] = zcn _ (r.getD k zNd)
  rw [List.getD_eq_getElem?_getD, List.getElem?_eq_getElem hk]; rfl
theorem zjH (r : List Nd) (j : Nat) : (zbY r 0).getD j 0 = 0 := by
  unfold zbY
  rw [List.take_zero, List.foldl_nil, List.getD_eq_getElem?_getD, List.getElem?_replicate]
  split <;> rfl
theorem zeB {n : Nd} {u : List Int} (h : (8 ≤ ndK n -> ndK n ≤ 17 -> 0 ≤ ndL n ∧ ndL n < u.length) ∧ (8 ≤ ndK n -> ndK n ≤ 10 ∨ ndK n = 17 -> 0 ≤ ndR n ∧ ndR n < u.length)) (hk : 1 ≤ ndK n ∧ ndK n ≤ 18) (k : Nat) :
    (zcn u n).getD k 0 = u.getD k 0 + (if 8 ≤ ndK n ∧ ndK n ≤ 17 ∧ k = (ndL n).toNat then 1 else 0) + (if ((8 ≤ ndK n ∧ ndK n ≤ 10) ∨ ndK n = 17) ∧ k = (ndR n).toNat then 1 else 0) := by
  obtain ⟨hL, hR⟩ := h
  unfold zcn
  by_cases h11 : 11 ≤ ndK n ∧ ndK n ≤ 16
  · obtain ⟨a, b⟩ := hL (by omega) (by omega)
    rw [zm2 h11, decide_eq_false (by decide), decide_eq_true (by decide), cond_false, cond_true, zcu (by omega)]
    rw [if_neg (c := ((8 ≤ ndK n ∧ ndK n ≤ 10) ∨ ndK n = 17) ∧ k = (ndR n).toNat) (by omega)]
    by_cases e : k = (ndL n).toNat
    · rw [if_pos e, if_pos ⟨by omega, by omega, e⟩]; omega
    · rw [if_neg e, if_neg fun h => e h.2.2]; omega
  · by_cases h8 : (8 ≤ ndK n ∧ ndK n ≤ 10) ∨ ndK n = 17
    · obtain ⟨a, b⟩ := hL (by omega) (by omega)
      obtain ⟨c, d⟩ := hR (by omega) (by omega)
      rw [zjU h8, decide_eq_true (by decide), cond_true, zcu (by rw [zdv]; omega), zcu (by omega)]
      by_cases e : k = (ndL n).toNat
      · rw [if_pos e, if_pos (c := 8 ≤ ndK n ∧ ndK n ≤ 17 ∧ k = (ndL n).toNat) ⟨by omega, by omega, e⟩]
        by_cases e2 : k = (ndR n).toNat
        · rw [if_pos e2, if_pos ⟨h8, e2⟩]
        · rw [if_neg e2, if_neg fun h => e2 h.2]; omega
      · rw [if_neg e, if_neg (c := 8 ≤ ndK n ∧ ndK n ≤ 17 ∧ k = (ndL n).toNat) fun h => e h.2.2]
        by_cases e2 : k = (ndR n).toNat
        · rw [if_pos e2, if_pos ⟨h8, e2⟩]; omega
        · rw [if_neg e2, if_neg fun h => e2 h.2]; omega
    · rw [zhY hk (by omega), decide_eq_false (by decide), decide_eq_false (by decide), cond_false, cond_false, if_neg (by omega), if_neg (by omega)]; omega
def pot (u : List Int) (f : Nat -> Nat) : Nat -> Nat
  | 0 => 0
  | m + 1 => pot u f m + (if u.getD m 0 = 0 then f m else 0)
theorem zfY {u : List Int} {f : Nat -> Nat} {j : Int} (hj : j.toNat < u.length) (h0 : u.getD j.toNat 0 = 0) : ∀ {m : Nat}, (j.toNat < m -> pot (bump u j) f m + f j.toNat = pot u f m) ∧ (m ≤ j.toNat -> pot (bump u j) f m = pot u f m)
  | 0 => ⟨fun h => by omega, fun _ => rfl⟩
  | m + 1 => by
    obtain ⟨i1, i2⟩ := zfY (f := f) hj h0 (m := m)
    constructor
    · intro h
      unfold pot
      rw [zcu hj]
      by_cases e : m = j.toNat
      · rw [i2 (by omega), if_pos e, e, h0, if_neg (by decide), if_pos rfl]
        omega
      · rw [if_neg e, <- i1 (by omega)]
        omega
    · intro h
      unfold pot
      rw [i2 (by omega), zcu hj, if_neg (c := m = j.toNat) (by omega)]
theorem zdX {r : List Nd} (hl : Low r) (hk : ∀ j : Nat, j < r.length -> 1 ≤ ndK (zas r j) ∧ ndK (zas r j) ≤ 18) : ∀ m, m ≤ r.length -> ∀ j, m ≤ j -> (zbY r m).getD j 0 = 0
  | 0, _, j, _ => zjH r j
  | m + 1, hm, j, hj => by
    obtain ⟨a, b⟩ := hl m (by omega)
    rw [zcp (by omega), zeB (by rw [zcy]; exact ⟨fun x y => by have := a x y; omega, fun x y => by have := b x y; omega⟩) (hk m (by omega)), zdX hl hk m (by omega) j (by omega), if_neg, if_neg]
    · omega
    · rintro ⟨x, y⟩
      have := b (by omega) (by omega)
      omega
    · rintro ⟨x, y, z⟩
      have := a x y
      omega
theorem zf8 {r : List Nd} (hl : Low r) (hk : ∀ j : Nat, j < r.length -> 1 ≤ ndK (zas r j) ∧ ndK (zas r j) ≤ 18) (j : Nat) : ∀ d m, m + d ≤ r.length -> (zbY r m).getD j 0 ≤ (zbY r (m + d)).getD j 0
  | 0, m, _ => Int.le_refl _
  | d + 1, m, h => by
    have := zf8 hl hk j d m (by omega)
    obtain ⟨a, b⟩ := hl (m + d) (by omega)
    rw [<- Nat.add_assoc, zcp (by omega), zeB (by rw [zcy]; exact ⟨fun x y => by have := a x y; omega, fun x y => by have := b x y; omega⟩) (hk (m + d) (by omega))]
    have p1 : (0 : Int) ≤ if 8 ≤ ndK (zas r (m + d : Nat)) ∧ ndK (zas r (m + d : Nat)) ≤ 17 ∧ j = (ndL (zas r (m + d : Nat))).toNat then 1 else 0 := by split <;> decide
    have p2 : (0 : Int) ≤ if ((8 ≤ ndK (zas r (m + d : Nat)) ∧ ndK (zas r (m + d : Nat)) ≤ 10) ∨ ndK (zas r (m + d : Nat)) = 17) ∧ j = (ndR (zas r (m + d : Nat))).toNat then 1 else 0 := by split <;> decide
    omega
theorem zhI {r : List Nd} (hl : Low r) : ∀ (k k' i : Nat), i < k -> i < k' -> i < r.length -> trF k r i = trF k' r i
  | 0, _, _, h, _, _ => by omega
  | _ + 1, 0, _, _, h, _ => by omega
  | k + 1, k' + 1, i, h, h', hr => by
    obtain ⟨hL, hR⟩ := hl i hr
    have key : ∀ j : Int, 0 ≤ j -> j < (i : Int) -> trF k r j = trF k' r j := fun j h0 h1 => by
      obtain ⟨m, rfl⟩ : ∃ m : Nat, j = (m : Int) := ⟨j.toNat, by omega⟩
      exact zhI hl k k' m (by omega) (by omega) (by omega)
    unfold trF
    split
    · rename_i hu
      obtain ⟨a, b⟩ := hL (by omega) (by omega)
      rw [key _ a b]
    · split
      · rename_i hb
        obtain ⟨a, b⟩ := hL (by omega) (by omega)
        obtain ⟨c, d⟩ := hR (by omega) (by omega)
        rw [key _ a b, key _ c d]
      · rfl
theorem zkG {r : List Nd} (hl : Low r) (hk : ∀ j : Nat, j < r.length -> 1 ≤ ndK (zas r j) ∧ ndK (zas r j) ≤ 18) (h1 : ∀ j, (zbY r r.length).getD j 0 ≤ 1) : ∀ m, m ≤ r.length -> pot (zbY r m) (fun j => (trF (r.length + 1) r j).size) m = m
  | 0, _ => rfl
  | m + 1, hm => by
    have ih := zkG hl hk h1 m (by omega)
    obtain ⟨hL, hR⟩ := hl m (by omega)
    have hkm := hk m (by omega)
    have hb : ∀ j, (zbY r (m + 1)).getD j 0 ≤ 1 := fun j => by
      have := zf8 hl hk j (r.length - (m + 1)) (m + 1) (by omega)
      rw [show m + 1 + (r.length - (m + 1)) = r.length by omega] at this
      have := h1 j
      omega
    have hab := zdX hl hk m (by omega)
    have hlen := zcy r m
    have hpos : ∀ j, 0 ≤ (zbY r m).getD j 0 := fun j => by
      have := zf8 hl hk j m 0 (by omega)
      rw [zjH, Nat.zero_add] at this
      exact this
    have hm0 : (zbY r (m + 1)).getD m 0 = 0 := by
      have h := hab m (Nat.le_refl _)
      rw [zcp (by omega), zeB (by rw [zcy]; exact ⟨fun x y => by have := hL x y; omega, fun x y => by have := hR x y; omega⟩) hkm, h, if_neg, if_neg]
      · rfl
      · rintro ⟨x, y⟩
        have := hR (by omega) (by omega)
        omega
      · rintro ⟨x, y, z⟩
        have := hL x y
        omega
    have key : ∀ j : Int, 0 ≤ j -> j < (m : Int) -> (trF r.length r j).size = (trF (r.length + 1) r (j.toNat : Nat)).size := fun j h0 h1 => by
      obtain ⟨q, rfl⟩ : ∃ q : Nat, j = (q : Int) := ⟨j.toNat, by omega⟩
      rw [Int.toNat_natCast, zhI hl r.length (r.length + 1) q (by omega) (by omega) (by omega)]
    have hf : ∀ n, zas r (m : Int) = n -> (trF (r.length + 1) r (m : Int)).size = (if 8 ≤ ndK n ∧ ndK n ≤ 17 then (trF (r.length + 1) r ((ndL n).toNat : Nat)).size else 0) + (if (8 ≤ ndK n ∧ ndK n ≤ 10) ∨ ndK n = 17 then (trF (r.length + 1) r ((ndR n).toNat : Nat)).size else 0) + 1 := by
      rintro n rfl
      conv => lhs; unfold trF
      split
      · rename_i hu
        obtain ⟨a, b⟩ := hL (by omega) (by omega)
        rw [if_pos (by omega), if_neg (by omega)]
        show (trF r.length r _).size + 1 = _
        rw [key _ a b]
      · split
        · rename_i hu
          obtain ⟨a, b⟩ := hL (by omega) (by omega)
          obtain ⟨c, d⟩ := hR (by omega) (by omega)
          rw [if_pos (by omega)]
          show (trF r.length r _).size + (trF r.length r _).size + 1 = _
          rw [key _ a b, key _ c d]
        · rw [if_neg (by omega)]; rfl
    have hf := hf _ rfl
    unfold pot
    rw [hm0, if_pos rfl]
    have hu := zcp (r := r) (k := m) (by omega)
    rw [hu] at hb ⊢
    generalize hn : zas r (m : Int) = n at *
    rw [hf]
    unfold zcn at hb ⊢
    by_cases h11 : 11 ≤ ndK n ∧ ndK n ≤ 16
    · obtain ⟨a, b⟩ := hL (by omega) (by omega)
      rw [zm2 h11, decide_eq_false (by decide), decide_eq_true (by decide), cond_false, cond_true] at hb ⊢
      rw [if_pos (by omega), if_neg (by omega)]
      have h0 := hb (ndL n).toNat
      rw [zcu (by omega), if_pos rfl] at h0
      have := hpos (ndL n).toNat
      have := (zfY (f := fun j => (trF (r.length + 1) r j).size) (u := zbY r m) (j := ndL n) (by omega) (by omega) (m := m)).1 (by omega)
      omega
    · by_cases h8 : (8 ≤ ndK n ∧ ndK n ≤ 10) ∨ ndK n = 17
      · obtain ⟨a, b⟩ := hL (by omega) (by omega)
        obtain ⟨c, d⟩ := hR (by omega) (by omega)
        rw [zjU h8, decide_eq_true (by decide), cond_true] at hb ⊢
        rw [if_pos (by omega), if_pos h8]
        have hne : (ndL n).toNat ≠ (ndR n).toNat := fun e => by
          have h0 := hb (ndR n).toNat
          rw [zcu (by rw [zdv]; omega), if_pos rfl, zcu (by omega), if_pos e.symm] at h0
          have := hpos (ndR n).toNat
          omega
        have h0 := hb (ndL n).toNat
        rw [zcu (by rw [zdv]; omega), if_neg hne, zcu (by omega), if_pos rfl] at h0
        have h2 := hb (ndR n).toNat
        rw [zcu (by rw [zdv]; omega), if_pos rfl, zcu (by omega), if_neg (fun e => hne e.symm)] at h2
        have p1 := hpos (ndL n).toNat
        have p2 := hpos (ndR n).toNat
        have e1 := (zfY (f := fun j => (trF (r.length + 1) r j).size) (u := zbY r m) (j := ndL n) (by omega) (by omega) (m := m)).1 (by omega)
        have e2 := (zfY (f := fun j => (trF (r.length + 1) r j).size) (u := bump (zbY r m) (ndL n)) (j := ndR n) (by rw [zdv]; omega) (by rw [zcu (by omega), if_neg (fun e => hne e.symm)]; omega) (m := m)).1 (by omega)
        omega
      · rw [zhY hkm (by omega), decide_eq_false (by decide), decide_eq_false (by decide), cond_false, cond_false, if_neg (by omega), if_neg (by omega), ih]
theorem zdo {r : List Nd} (h : wfS r = true) : (1 ≤ r.length ∧ r.length ≤ 64) ∧ zcF r r.length = true ∧ ∀ j, j < r.length - 1 -> (zbY r r.length).getD j 0 = 1 := by
  unfold wfS at h
  simp only [Bool.and_eq_true, decide_eq_true_iff, Bool.not_eq_true', List.any_eq_false] at h
  obtain ⟨⟨h1, h2⟩, h3⟩ := h
  refine ⟨h1, h2, fun j hj => ?_⟩
  have hl := zcy r r.length
  have hj2 : j < (zbY r r.length).length := by omega
  have := h3 ((zbY r r.length)[j]) (List.mem_take_iff_getElem.2 ⟨j, by omega, rfl⟩)
  rw [List.getD_eq_getElem?_getD, List.getElem?_eq_getElem hj2]
  unfold not1 at this
  simpa using this
def zc5 (r : List Nd) : Tr := trF (r.length + 1) r ((r.length : Int) - 1)
theorem zmk {r : List Nd} (h : wfS r = true) : (zc5 r).size = r.length := by
  obtain ⟨⟨h1, h2⟩, h3, h4⟩ := zdo h
  have hl := zkL h3
  have hk : ∀ j : Nat, j < r.length -> 1 ≤ ndK (zas r j) ∧ ndK (zas r j) ≤ 18 := fun j hj => (zaF (zcB h3 hj).1).1
  have hlast : (zbY r r.length).getD (r.length - 1) 0 = 0 := by
    obtain ⟨m, hm⟩ : ∃ m, r.length = m + 1 := ⟨r.length - 1, by omega⟩
    obtain ⟨a, b⟩ := hl m (by omega)
    rw [hm, Nat.add_sub_cancel, zcp (by omega), zeB (by rw [zcy]; exact ⟨fun x y => by have := a x y; omega, fun x y => by have := b x y; omega⟩) (hk m (by omega)), zdX hl hk m (by omega) m (Nat.le_refl _), if_neg, if_neg]
    · rfl
    · rintro ⟨x, y⟩
      have := b (by omega) (by omega)
      omega
    · rintro ⟨x, y, z⟩
      have := a x y
      omega
  have hle : ∀ j, (zbY r r.length).getD j 0 ≤ 1 := fun j => by
    by_cases e : j < r.length - 1
    · rw [h4 j e]; exact Int.le_refl _
    · by_cases e2 : j = r.length - 1
      · rw [e2, hlast]; decide
      · rw [zdX hl hk r.length (Nat.le_refl _) j (by omega)]; decide
  have := zkG hl hk hle r.length (Nat.le_refl _)
  obtain ⟨m, hm⟩ : ∃ m, r.length = m + 1 := ⟨r.length - 1, by omega⟩
  have hp : ∀ q, q ≤ m -> pot (zbY r r.length) (fun j => (trF (r.length + 1) r j).size) q = 0 := by
    intro q
    induction q with
    | zero => intro _; rfl
    | succ q ih => intro hq; unfold pot; rw [ih (by omega), h4 q (by omega), if_neg (by decide)]
  rw [hm] at this hlast
  unfold pot at this
  rw [<- hm] at this hlast
  rw [hp m (Nat.le_refl _)] at this
  have hm2 : r.length - 1 = m := by omega
  rw [hm2] at hlast
  rw [hlast, if_pos rfl] at this
  unfold zc5
  rw [show ((r.length : Int) - 1) = ((m : Nat) : Int) by omega]
  omega
theorem zqh {r : List Nd} (h : wfS r = true) : TrOk (zc5 r) := by
  obtain ⟨⟨h1, h2⟩, h3, h4⟩ := zdo h
  unfold zc5
  rw [show ((r.length : Int) - 1) = ((r.length - 1 : Nat) : Int) by omega]
  exact zmh h3 _ _ (by omega) (by omega)
theorem zmj {r : List Nd} (h : wfS r = true) : zcG (r.length + 1) r ((r.length : Int) - 1) = (zc5 r).text := by
  obtain ⟨⟨h1, h2⟩, h3, h4⟩ := zdo h
  unfold zc5
  rw [show ((r.length : Int) - 1) = ((r.length - 1 : Nat) : Int) by omega]
  exact zf0 (zkL h3) _ _ (by omega) (by omega)
def fmtS (r : List Nd) : List UInt8 × Int := if zcR r = 0 then (if 4000 < (zc5 r).text.length then ([], 2) else ((zc5 r).text, 0)) else ([], zcR r)
theorem zpl {n : Nd} (h : zbA n = true) : (ndS n).length ≤ 32 := by
  obtain ⟨_, _, _, h, _⟩ := zaF h
  unfold zh0 at h
  cases hk : (ndK n == 18) with
  | true =>
    rw [hk] at h
    have h : zeO (ndS n) = true := h
    unfold zeO at h
    simp only [Bool.and_eq_true, decide_eq_true_iff] at h
    exact h.1.2
  | false =>
    rw [hk] at h
    have h := of_decide_eq_true h
    rw [h]; decide
theorem zjG {r : List Nd} (h : zcR r = 0) : wfS r = true := by
  unfold zcR at h
  split at h
  · cases h
  · split at h
    · assumption
    · cases h
set_option maxRecDepth 100000
theorem zeo {a : Int} (ha : zbS a) : ∀ x ∈ [a], zbS x := fun x hx => by rw [List.mem_singleton] at hx; subst hx; exact ha
theorem numL2 {a b : Int} (ha : zbS a) (hb : zbS b) : ∀ x ∈ [a, b], zbS x := fun x hx => by
  rcases List.mem_cons.1 hx with rfl | hx
  · exact ha
  · exact zeo hb x hx
theorem zqx {a b c : Int} (ha : zbS a) (hb : zbS b) (hc : zbS c) : ∀ x ∈ [a, b, c], zbS x := fun x hx => by
  rcases List.mem_cons.1 hx with rfl | hx
  · exact ha
  · exact numL2 hb hc x hx
def hLf : List (FuncId × HCtr) := [(100, cPut), (150, zld)]
theorem zdh : HsOk Tryz.prog gmH hLf := .cons zmX <| .cons zkN .nil
def kLf : Kn := { gmK with C := [(151, zn0)] }
theorem zaK : KnOk Tryz.prog gmH kLf := zaj.with (.cons zmB .nil)
theorem zde (n : Int) : (zcg n).length ≤ 10 := by
  unfold zcg
  split
  · decide
  · decide
theorem cat3 (a b c : List UInt8) : (a ++ b ++ c : List UInt8) = a ++ (b ++ c) := List.append_assoc a b c
@[reducible] def zn6 : HCtr := hW [nd] (fun x xs => [List.length x.2.1 + 10000 ≤ 1000000000, zjC xs.1, 1 ≤ ndK xs.1, ndK xs.1 ≤ 7 ∨ ndK xs.1 = 18]) fun x xs => zdL xs.1
theorem zo8 : zaA Tryz.prog gmH 103 zn6 := by
  refine zar (K := _) zaK Tryz.func103 rfl rfl (zb8 rfl) Tryz.call103 rfl (Nat.le_of_ble_eq_true rfl) (zdb prT [107]) ?_
  rintro w0 ⟨G, O, K, fix, D, ρ, B⟩ ty hX hG hK hρ hD hinv ⟨(b : Bool), (bf : List UInt8), (r : List Nd), ⟨⟩⟩ ⟨(n : Nd), ⟨⟩⟩ hp
  obtain rfl : G = gmH := hG
  obtain rfl : K = 1 := hK
  obtain rfl : ρ = none := hρ
  obtain rfl : D = [] := hD
  have hI := fun w R hR hw => (⟨zaD (ty := ty) hX rfl hinv.1 (ty' := ty) w R hR hw, hinv.2⟩ : bInv prT [107] w R ty)
  obtain ⟨hlen, ⟨⟨hC, hN, hM⟩, hI', hil, hnl, hsc, -⟩, hk0, hkk⟩ : bf.length + 10000 ≤ 1000000000 ∧ zjC n ∧ 1 ≤ ndK n ∧ (ndK n ≤ 7 ∨ ndK n = 18) := hp
  have hq0 : bf.length + 200 + 19 * 3 ≤ 1000000000 := by omega
  change AWP _ _ _ _ _ ⟨[(0, ⟨.hptr, ((0 : Nat), (0 : Nat))⟩), (1, ⟨nd, n⟩)], wE ty b bf r, 2⟩ (wQ _ zn6 ty (.ok ((), (true, ((bf ++ zdL n : List UInt8), (r, ()))))))
  unfold zdL
  (repeat (first | refine zae ?_ | refine zac ?_ | refine zab ?_ | refine zad ?_)); refine zaa hX zaK rfl ?_ ?_
  · trivial
  (repeat (first | refine zae ?_ | refine zac ?_ | refine zab ?_ | refine zad ?_)); refine zaa hX zaK rfl ?_ ?_
  · trivial
  refine zab ?_
  refine zan (σ' := ⟨[(0, ⟨.hptr, ((0 : Nat), (0 : Nat))⟩), (3, ⟨.optr nd, ⟨2, nd, .here⟩⟩), (5, ⟨i64, ndK n⟩)], (2, some (.box nd n)) :: wE ty b bf r, 3⟩) ⟨⟨rfl, rfl, rfl, trivial⟩, ⟨rfl, rfl, rfl, trivial⟩, rfl, by cases b <;> rfl⟩ ?_
  (repeat (first | refine zae ?_ | refine zac ?_ | refine zab ?_ | refine zad ?_)); refine zaa hX zaK rfl ?_ ?_
  · trivial
  refine zai rfl (fun hb => ?_) (fun hb => ?_)
  · have hb : (ndK n == 1) = true := hb
    have hk := beq_iff_eq.1 hb
    rw [if_pos hk]
    cases b
    all_goals
      (repeat (first | refine zae ?_ | refine zac ?_ | refine zab ?_ | refine zad ?_)); refine zah ?_
      refine AL.own 6 hX zaK zdh rfl trivial rfl rfl ⟨(by show List.length bf + List.length ziz + 19 * 2 ≤ 1000000000; have : List.length ziz ≤ 20 := (by decide); omega), (numL2 hN hM)⟩ hI ?_
      exact AL.nil ⟨.inl rfl, ⟨_, rfl, u8, 1, _, rfl, rfl, rfl⟩, zba (by decide) rfl rfl trivial rfl⟩
  have hb : (ndK n == 1) = false := hb
  have hk1 : ndK n ≠ 1 := fun e => by rw [beq_iff_eq.2 e] at hb; cases hb
  rw [if_neg hk1]
  (repeat (first | refine zae ?_ | refine zac ?_ | refine zab ?_ | refine zad ?_)); refine zaa hX zaK rfl ?_ ?_
  · trivial
  refine zai rfl (fun hb => ?_) (fun hb => ?_)
  · have hb : (ndK n == 2) = true := hb
    have hk := beq_iff_eq.1 hb
    rw [if_pos hk]
    cases b
    all_goals
      (repeat (first | refine zae ?_ | refine zac ?_ | refine zab ?_ | refine zad ?_)); refine zah ?_
      refine AL.own 8 hX zaK zdh rfl trivial rfl rfl ⟨(by show List.length bf + List.length zfB + 19 * 3 ≤ 1000000000; have : List.length zfB ≤ 20 := (by decide); omega), (zqx hC hN hM)⟩ hI ?_
      exact AL.nil ⟨.inl rfl, ⟨_, rfl, u8, 1, _, rfl, rfl, rfl⟩, zba (by decide) rfl rfl trivial rfl⟩
  have hb : (ndK n == 2) = false := hb
  have hk2 : ndK n ≠ 2 := fun e => by rw [beq_iff_eq.2 e] at hb; cases hb
  rw [if_neg hk2]
  (repeat (first | refine zae ?_ | refine zac ?_ | refine zab ?_ | refine zad ?_)); refine zaa hX zaK rfl ?_ ?_
  · trivial
  refine zai rfl (fun hb => ?_) (fun hb => ?_)
  · have hb : (ndK n == 3) = true := hb
    have hk := beq_iff_eq.1 hb
    rw [if_pos hk]
    refine AWP.via (σ' := ⟨[(0, ⟨.hptr, ((0 : Nat), (0 : Nat))⟩), (3, ⟨.optr nd, ⟨2, nd, .here⟩⟩)], (2, some (.box nd n)) :: wE ty true ((bf ++ putS zce [ndC n] : List UInt8)) r, 3⟩) ?_ ?_
    · cases b
      all_goals
        (repeat (first | refine zae ?_ | refine zac ?_ | refine zab ?_ | refine zad ?_)); refine zah ?_
        refine AL.own 4 hX zaK zdh rfl trivial rfl rfl ⟨(by show List.length bf + List.length zce + 19 * 1 ≤ 1000000000; have : List.length zce ≤ 20 := (by decide); omega), (zeo hC)⟩ hI ?_
        exact AL.nil ⟨⟨rfl, rfl, trivial⟩, ⟨rfl, rfl, rfl, trivial⟩, rfl, rfl⟩
    have hl2 : List.length (bf ++ putS zce [ndC n] : List UInt8) + 20 * List.length (ndI n) + 1 ≤ 1000000000 := by
      have := zbu (zeo hC)
      have hw : List.length zce ≤ 20 := by decide
      simp only [putS, List.length_append, List.length_cons, List.length_nil] at this ⊢
      omega
    rw [show (bf ++ (putS zce [ndC n] ++ zb0 (ndI n)) : List UInt8) = bf ++ putS zce [ndC n] ++ zb0 (ndI n) from (cat3 _ _ _).symm]
    (repeat (first | refine zae ?_ | refine zac ?_ | refine zab ?_ | refine zad ?_)); refine zah ?_
    refine AL.own 3 hX zaK zdh rfl trivial rfl rfl ⟨hl2, hI'⟩ hI ?_
    exact AL.nil ⟨.inl rfl, ⟨_, rfl, u8, 1, _, rfl, rfl, rfl⟩, zba (by decide) rfl rfl trivial rfl⟩
  have hb : (ndK n == 3) = false := hb
  have hk3 : ndK n ≠ 3 := fun e => by rw [beq_iff_eq.2 e] at hb; cases hb
  rw [if_neg hk3]
  (repeat (first | refine zae ?_ | refine zac ?_ | refine zab ?_ | refine zad ?_)); refine zaa hX zaK rfl ?_ ?_
  · trivial
  refine zai rfl (fun hb => ?_) (fun hb => ?_)
  · have hb : (ndK n == 4) = true := hb
    have hk := beq_iff_eq.1 hb
    rw [if_pos hk]
    refine AWP.via (σ' := ⟨[(0, ⟨.hptr, ((0 : Nat), (0 : Nat))⟩), (3, ⟨.optr nd, ⟨2, nd, .here⟩⟩)], (2, some (.box nd n)) :: wE ty true ((bf ++ putS zaZ [ndC n] : List UInt8)) r, 3⟩) ?_ ?_
    · cases b
      all_goals
        (repeat (first | refine zae ?_ | refine zac ?_ | refine zab ?_ | refine zad ?_)); refine zah ?_
        refine AL.own 4 hX zaK zdh rfl trivial rfl rfl ⟨(by show List.length bf + List.length zaZ + 19 * 1 ≤ 1000000000; have : List.length zaZ ≤ 20 := (by decide); omega), (zeo hC)⟩ hI ?_
        exact AL.nil ⟨⟨rfl, rfl, trivial⟩, ⟨rfl, rfl, rfl, trivial⟩, rfl, rfl⟩
    have hl2 : List.length (bf ++ putS zaZ [ndC n] : List UInt8) + 20 * List.length (ndI n) + 1 ≤ 1000000000 := by
      have := zbu (zeo hC)
      have hw : List.length zaZ ≤ 20 := by decide
      simp only [putS, List.length_append, List.length_cons, List.length_nil] at this ⊢
      omega
    rw [show (bf ++ (putS zaZ [ndC n] ++ zb0 (ndI n)) : List UInt8) = bf ++ putS zaZ [ndC n] ++ zb0 (ndI n) from (cat3 _ _ _).symm]
    (repeat (first | refine zae ?_ | refine zac ?_ | refine zab ?_ | refine zad ?_)); refine zah ?_
    refine AL.own 3 hX zaK zdh rfl trivial rfl rfl ⟨hl2, hI'⟩ hI ?_
    exact AL.nil ⟨.inl rfl, ⟨_, rfl, u8, 1, _, rfl, rfl, rfl⟩, zba (by decide) rfl rfl trivial rfl⟩
  have hb : (ndK n == 4) = false := hb
  have hk4 : ndK n ≠ 4 := fun e => by rw [beq_iff_eq.2 e] at hb; cases hb
  rw [if_neg hk4]
  (repeat (first | refine zae ?_ | refine zac ?_ | refine zab ?_ | refine zad ?_)); refine zaa hX zaK rfl ?_ ?_
  · trivial
  refine zai rfl (fun hb => ?_) (fun hb => ?_)
  · have hb : (ndK n == 5) = true := hb
    have hk := beq_iff_eq.1 hb
    rw [if_pos hk]
    refine AWP.via (σ' := ⟨[(0, ⟨.hptr, ((0 : Nat), (0 : Nat))⟩), (3, ⟨.optr nd, ⟨2, nd, .here⟩⟩)], (2, some (.box nd n)) :: wE ty true ((bf ++ putS zbh [] : List UInt8)) r, 3⟩) ?_ ?_
    · cases b
      all_goals
        (repeat (first | refine zae ?_ | refine zac ?_ | refine zab ?_ | refine zad ?_)); refine zah ?_
        refine AL.own 1 hX zaK zdh rfl trivial rfl rfl ⟨(by show List.length bf + List.length zbh + 19 * 0 ≤ 1000000000; have : List.length zbh ≤ 20 := (by decide); omega), (fun x hx => by cases hx)⟩ hI ?_
        exact AL.nil ⟨⟨rfl, rfl, trivial⟩, ⟨rfl, rfl, rfl, trivial⟩, rfl, rfl⟩
    have hl2 : List.length (bf ++ putS zbh [] : List UInt8) + 20 * List.length (ndI n) + 1 ≤ 1000000000 := by
      have := zbu (l := []) (fun x hx => by cases hx)
      have hw : List.length zbh ≤ 20 := by decide
      simp only [putS, List.length_append, List.length_cons, List.length_nil] at this ⊢
      omega
    rw [show (bf ++ (putS zbh [] ++ zb0 (ndI n)) : List UInt8) = bf ++ putS zbh [] ++ zb0 (ndI n) from (cat3 _ _ _).symm]
    (repeat (first | refine zae ?_ | refine zac ?_ | refine zab ?_ | refine zad ?_)); refine zah ?_
    refine AL.own 3 hX zaK zdh rfl trivial rfl rfl ⟨hl2, hI'⟩ hI ?_
    exact AL.nil ⟨.inl rfl, ⟨_, rfl, u8, 1, _, rfl, rfl, rfl⟩, zba (by decide) rfl rfl trivial rfl⟩
  have hb : (ndK n == 5) = false := hb
  have hk5 : ndK n ≠ 5 := fun e => by rw [beq_iff_eq.2 e] at hb; cases hb
  rw [if_neg hk5]
  (repeat (first | refine zae ?_ | refine zac ?_ | refine zab ?_ | refine zad ?_)); refine zaa hX zaK rfl ?_ ?_
  · trivial
  refine zai rfl (fun hb => ?_) (fun hb => ?_)
  · have hb : (ndK n == 6) = true := hb
    have hk := beq_iff_eq.1 hb
    rw [if_pos hk]
    refine AWP.via (σ' := ⟨[(0, ⟨.hptr, ((0 : Nat), (0 : Nat))⟩), (3, ⟨.optr nd, ⟨2, nd, .here⟩⟩)], (2, some (.box nd n)) :: wE ty true ((bf ++ putS zc4 [ndC n] : List UInt8)) r, 3⟩) ?_ ?_
    · cases b
      all_goals
        (repeat (first | refine zae ?_ | refine zac ?_ | refine zab ?_ | refine zad ?_)); refine zah ?_
        refine AL.own 4 hX zaK zdh rfl trivial rfl rfl ⟨(by show List.length bf + List.length zc4 + 19 * 1 ≤ 1000000000; have : List.length zc4 ≤ 20 := (by decide); omega), (zeo hC)⟩ hI ?_
        exact AL.nil ⟨⟨rfl, rfl, trivial⟩, ⟨rfl, rfl, rfl, trivial⟩, rfl, rfl⟩
    have hl2 : List.length (bf ++ putS zc4 [ndC n] : List UInt8) + 20 * List.length (ndI n) + 1 ≤ 1000000000 := by
      have := zbu (zeo hC)
      have hw : List.length zc4 ≤ 20 := by decide
      simp only [putS, List.length_append, List.length_cons, List.length_nil] at this ⊢
      omega
    rw [show (bf ++ (putS zc4 [ndC n] ++ zb0 (ndI n)) : List UInt8) = bf ++ putS zc4 [ndC n] ++ zb0 (ndI n) from (cat3 _ _ _).symm]
    (repeat (first | refine zae ?_ | refine zac ?_ | refine zab ?_ | refine zad ?_)); refine zah ?_
    refine AL.own 3 hX zaK zdh rfl trivial rfl rfl ⟨hl2, hI'⟩ hI ?_
    exact AL.nil ⟨.inl rfl, ⟨_, rfl, u8, 1, _, rfl, rfl, rfl⟩, zba (by decide) rfl rfl trivial rfl⟩
  have hb : (ndK n == 6) = false := hb
  have hk6 : ndK n ≠ 6 := fun e => by rw [beq_iff_eq.2 e] at hb; cases hb
  rw [if_neg hk6]
  (repeat (first | refine zae ?_ | refine zac ?_ | refine zab ?_ | refine zad ?_)); refine zaa hX zaK rfl ?_ ?_
  · trivial
  refine zai rfl (fun hb => ?_) (fun hb => ?_)
  · have hb : (ndK n == 7) = true := hb
    have hk := beq_iff_eq.1 hb
    rw [if_pos hk]
    obtain ⟨hs0, hs1⟩ := hsc hk
    refine AWP.via (σ' := ⟨[(0, ⟨.hptr, ((0 : Nat), (0 : Nat))⟩), (3, ⟨.optr nd, ⟨2, nd, .here⟩⟩)], (2, some (.box nd n)) :: wE ty true ((bf ++ putS wNth [ndC n, ndN n, ndM n] : List UInt8)) r, 3⟩) ?_ ?_
    · cases b
      all_goals
        (repeat (first | refine zae ?_ | refine zac ?_ | refine zab ?_ | refine zad ?_)); refine zah ?_
        refine AL.own 8 hX zaK zdh rfl trivial rfl rfl ⟨(by show List.length bf + List.length wNth + 19 * 3 ≤ 1000000000; have : List.length wNth ≤ 20 := (by decide); omega), (zqx hC hN hM)⟩ hI ?_
        exact AL.nil ⟨⟨rfl, rfl, trivial⟩, ⟨rfl, rfl, rfl, trivial⟩, rfl, rfl⟩
    have hl2 : List.length (bf ++ putS wNth [ndC n, ndN n, ndM n] : List UInt8) + List.length (zcg (ndL n)) + 19 * 0 ≤ 1000000000 := by
      have := zbu (zqx hC hN hM)
      have hw : List.length wNth ≤ 20 := by decide
      have hs := zde (ndL n)
      simp only [putS, List.length_append, List.length_cons, List.length_nil] at this ⊢
      omega
    rw [show (bf ++ (putS wNth [ndC n, ndN n, ndM n] ++ putS (zcg (ndL n)) []) : List UInt8) = bf ++ putS wNth [ndC n, ndN n, ndM n] ++ putS (zcg (ndL n)) [] from (cat3 _ _ _).symm]
    (repeat (first | refine zae ?_ | refine zac ?_ | refine zab ?_ | refine zad ?_)); refine zah ?_
    refine AL.own 4 hX zaK zdh rfl ⟨hs0, hs1⟩ rfl rfl ⟨hl2, fun x hx => by cases hx⟩ hI ?_
    exact AL.nil ⟨.inl rfl, ⟨_, rfl, u8, 1, _, rfl, rfl, rfl⟩, zba (by decide) rfl rfl trivial rfl⟩
  have hb : (ndK n == 7) = false := hb
  have hk7 : ndK n ≠ 7 := fun e => by rw [beq_iff_eq.2 e] at hb; cases hb
  rw [if_neg hk7]
  (repeat (first | refine zae ?_ | refine zac ?_ | refine zab ?_ | refine zad ?_)); refine zaa hX zaK rfl ?_ ?_
  · trivial
  refine zai rfl (fun hb => ?_) (fun hb => ?_)
  · have hb : (ndK n == 18) = true := hb
    have hk := beq_iff_eq.1 hb
    rw [if_pos hk]
    have hcat : 1 + List.length (ndS n) ≤ maxLen := by unfold maxLen; omega
    have hl2 : List.length bf + List.length (wAt ++ ndS n : List UInt8) + 19 * 0 ≤ 1000000000 := by
      rw [List.length_append]
      show _ + (1 + _) + _ ≤ _
      omega
    cases b
    all_goals
      (repeat (first | refine zae ?_ | refine zac ?_ | refine zab ?_ | refine zad ?_)); refine zah ?_
      refine AL.own 4 hX zaK zdh rfl hcat rfl rfl ⟨hl2, fun x hx => by cases hx⟩ hI ?_
      exact AL.nil ⟨.inl rfl, ⟨_, rfl, u8, 1, _, rfl, rfl, rfl⟩, zba (by decide) rfl rfl trivial rfl⟩
  have hb : (ndK n == 18) = false := hb
  have hk18 : ndK n ≠ 18 := fun e => by rw [beq_iff_eq.2 e] at hb; cases hb
  rw [if_neg hk18]
  exfalso
  omega
def WfP (r : List Nd) : Prop := r.length ≤ 1000 ∧ ∀ j : Nat, j < r.length -> zjC (zas r j) ∧ (1 ≤ ndK (zas r j) ∧ ndK (zas r j) ≤ 18) ∧ (8 ≤ ndK (zas r j) -> ndK (zas r j) ≤ 17 -> 0 ≤ ndL (zas r j) ∧ ndL (zas r j) < j) ∧ (8 ≤ ndK (zas r j) -> ndK (zas r j) ≤ 10 ∨ ndK (zas r j) = 17 -> 0 ≤ ndR (zas r j) ∧ ndR (zas r j) < j)
@[reducible] def cOpd (k : Nat) : HCtr := hW [i64, i64] (fun x xs => [WfP x.2.2.1, 0 ≤ xs.1, xs.1.toNat < k, xs.1.toNat < List.length x.2.2.1, List.length x.2.1 + List.length (opdF k x.2.2.1 xs.1 xs.2.1) + 10000 ≤ 1000000000]) fun x xs => opdF k x.2.2.1 xs.1 xs.2.1
@[reducible] def zpC (k : Nat) : HCtr := hW [nd] (fun x xs => [WfP x.2.2.1, zjC xs.1, 11 ≤ ndK xs.1, ndK xs.1 ≤ 17, ndK xs.1 = 17 -> 0 ≤ ndR xs.1 ∧ (ndR xs.1).toNat < k ∧ (ndR xs.1).toNat < List.length x.2.2.1, List.length x.2.1 + List.length (zcr (opdF k x.2.2.1 (ndR xs.1) 5) xs.1) + 10000 ≤ 1000000000]) fun x xs => zcr (opdF k x.2.2.1 (ndR xs.1) 5) xs.1
def hSf (k : Nat) : List (FuncId × HCtr) := [(100, cPut), (150, zld), (99, cOpd k)]
theorem cat4 (a b c d : List UInt8) : (a ++ b ++ c ++ d : List UInt8) = a ++ (b ++ (c ++ d)) := by rw [List.append_assoc, List.append_assoc]
theorem zlp (k : Nat) (hO : zaA Tryz.prog gmH 99 (cOpd k)) : zaA Tryz.prog gmH 102 (zpC k) := by
  have hsf : HsOk Tryz.prog gmH (hSf k) := .cons zmX <| .cons zkN <| .cons hO .nil
  refine zar (K := _) zaK Tryz.func102 rfl rfl (zb8 rfl) Tryz.call102 rfl (Nat.le_of_ble_eq_true rfl) (zdb prT [107]) ?_
  rintro w0 ⟨G, O, K, fix, D, ρ, B⟩ ty hX hG hK hρ hD hinv ⟨(b : Bool), (bf : List UInt8), (r : List Nd), ⟨⟩⟩ ⟨(n : Nd), ⟨⟩⟩ hp
  obtain rfl : G = gmH := hG
  obtain rfl : K = 1 := hK
  obtain rfl : ρ = none := hρ
  obtain rfl : D = [] := hD
  have hI := fun w R hR hw => (⟨zaD (ty := ty) hX rfl hinv.1 (ty' := ty) w R hR hw, hinv.2⟩ : bInv prT [107] w R ty)
  obtain ⟨hwf, ⟨⟨hC, hN, hM⟩, hI', hil, hnl, -, hsc⟩, hk0, hkk, hbh, hT⟩ : WfP r ∧ zjC n ∧ 11 ≤ ndK n ∧ ndK n ≤ 17 ∧ (ndK n = 17 -> 0 ≤ ndR n ∧ (ndR n).toNat < k ∧ (ndR n).toNat < r.length) ∧ bf.length + (zcr (opdF k r (ndR n) 5) n).length + 10000 ≤ 1000000000 := hp
  have hlen : bf.length + 10000 ≤ 1000000000 := by omega
  change AWP _ _ _ _ _ ⟨[(0, ⟨.hptr, ((0 : Nat), (0 : Nat))⟩), (1, ⟨nd, n⟩)], wE ty b bf r, 2⟩ (wQ _ (zpC k) ty (.ok ((), (true, ((bf ++ zcr (opdF k r (ndR n) 5) n : List UInt8), (r, ()))))))
  unfold zcr at hT ⊢
  (repeat (first | refine zae ?_ | refine zac ?_ | refine zab ?_ | refine zad ?_)); refine zaa hX zaK rfl ?_ ?_
  · trivial
  (repeat (first | refine zae ?_ | refine zac ?_ | refine zab ?_ | refine zad ?_)); refine zaa hX zaK rfl ?_ ?_
  · trivial
  refine zab ?_
  refine zan (σ' := ⟨[(0, ⟨.hptr, ((0 : Nat), (0 : Nat))⟩), (3, ⟨.optr nd, ⟨2, nd, .here⟩⟩), (5, ⟨i64, ndK n⟩)], (2, some (.box nd n)) :: wE ty b bf r, 3⟩) ⟨⟨rfl, rfl, rfl, trivial⟩, ⟨rfl, rfl, rfl, trivial⟩, rfl, by cases b <;> rfl⟩ ?_
  (repeat (first | refine zae ?_ | refine zac ?_ | refine zab ?_ | refine zad ?_)); refine zaa hX zaK rfl ?_ ?_
  · trivial
  refine zai rfl (fun hb => ?_) (fun hb => ?_)
  · have hb : (ndK n == 11) = true := hb
    have hk := beq_iff_eq.1 hb
    rw [if_pos hk]
    cases b
    all_goals
      (repeat (first | refine zae ?_ | refine zac ?_ | refine zab ?_ | refine zad ?_)); refine zah ?_
      refine AL.own 4 hX zaK hsf rfl trivial rfl rfl ⟨(by show List.length bf + List.length (spW zey) + 19 * 1 ≤ 1000000000; have : List.length (spW zey) ≤ 20 := (by decide); omega), (zeo hN)⟩ hI ?_
      exact AL.nil ⟨.inl rfl, ⟨_, rfl, u8, 1, _, rfl, rfl, rfl⟩, zba (by decide) rfl rfl trivial rfl⟩
  have hb : (ndK n == 11) = false := hb
  have hk11 : ndK n ≠ 11 := fun e => by rw [beq_iff_eq.2 e] at hb; cases hb
  rw [if_neg hk11]
  (repeat (first | refine zae ?_ | refine zac ?_ | refine zab ?_ | refine zad ?_)); refine zaa hX zaK rfl ?_ ?_
  · trivial
  refine zai rfl (fun hb => ?_) (fun hb => ?_)
  · have hb : (ndK n == 12) = true := hb
    have hk := beq_iff_eq.1 hb
    rw [if_pos hk]
    cases b
    all_goals
      (repeat (first | refine zae ?_ | refine zac ?_ | refine zab ?_ | refine zad ?_)); refine zah ?_
      refine AL.own 4 hX zaK hsf rfl trivial rfl rfl ⟨(by show List.length bf + List.length (spW zhH) + 19 * 1 ≤ 1000000000; have : List.length (spW zhH) ≤ 20 := (by decide); omega), (zeo hN)⟩ hI ?_
      exact AL.nil ⟨.inl rfl, ⟨_, rfl, u8, 1, _, rfl, rfl, rfl⟩, zba (by decide) rfl rfl trivial rfl⟩
  have hb : (ndK n == 12) = false := hb
  have hk12 : ndK n ≠ 12 := fun e => by rw [beq_iff_eq.2 e] at hb; cases hb
  rw [if_neg hk12]
  (repeat (first | refine zae ?_ | refine zac ?_ | refine zab ?_ | refine zad ?_)); refine zaa hX zaK rfl ?_ ?_
  · trivial
  refine zai rfl (fun hb => ?_) (fun hb => ?_)
  · have hb : (ndK n == 13) = true := hb
    have hk := beq_iff_eq.1 hb
    rw [if_pos hk]
    cases b
    all_goals
      (repeat (first | refine zae ?_ | refine zac ?_ | refine zab ?_ | refine zad ?_)); refine zah ?_
      refine AL.own 4 hX zaK hsf rfl trivial rfl rfl ⟨(by show List.length bf + List.length (spW zex) + 19 * 1 ≤ 1000000000; have : List.length (spW zex) ≤ 20 := (by decide); omega), (zeo hN)⟩ hI ?_
      exact AL.nil ⟨.inl rfl, ⟨_, rfl, u8, 1, _, rfl, rfl, rfl⟩, zba (by decide) rfl rfl trivial rfl⟩
  have hb : (ndK n == 13) = false := hb
  have hk13 : ndK n ≠ 13 := fun e => by rw [beq_iff_eq.2 e] at hb; cases hb
  rw [if_neg hk13]
  (repeat (first | refine zae ?_ | refine zac ?_ | refine zab ?_ | refine zad ?_)); refine zaa hX zaK rfl ?_ ?_
  · trivial
  refine zai rfl (fun hb => ?_) (fun hb => ?_)
  · have hb : (ndK n == 14) = true := hb
    have hk := beq_iff_eq.1 hb
    rw [if_pos hk]
    refine AWP.via (σ' := ⟨[(0, ⟨.hptr, ((0 : Nat), (0 : Nat))⟩), (3, ⟨.optr nd, ⟨2, nd, .here⟩⟩)], (2, some (.box nd n)) :: wE ty true ((bf ++ putS (spW zeA) [] : List UInt8)) r, 3⟩) ?_ ?_
    · cases b
      all_goals
        (repeat (first | refine zae ?_ | refine zac ?_ | refine zab ?_ | refine zad ?_)); refine zah ?_
        refine AL.own 1 hX zaK hsf rfl trivial rfl rfl ⟨(by show List.length bf + List.length (spW zeA) + 19 * 0 ≤ 1000000000; have : List.length (spW zeA) ≤ 20 := (by decide); omega), (fun x hx => by cases hx)⟩ hI ?_
        exact AL.nil ⟨⟨rfl, rfl, trivial⟩, ⟨rfl, rfl, rfl, trivial⟩, rfl, rfl⟩
    have hl2 : List.length (bf ++ putS (spW zeA) [] : List UInt8) + 20 * List.length (ndI n) + 1 ≤ 1000000000 := by
      have := zbu (l := []) (fun x hx => by cases hx)
      have hw : List.length (spW zeA) ≤ 20 := by decide
      simp only [putS, List.length_append, List.length_cons, List.length_nil] at this ⊢
      omega
    rw [show (bf ++ (putS (spW zeA) [] ++ zb0 (ndI n)) : List UInt8) = bf ++ putS (spW zeA) [] ++ zb0 (ndI n) from (cat3 _ _ _).symm]
    (repeat (first | refine zae ?_ | refine zac ?_ | refine zab ?_ | refine zad ?_)); refine zah ?_
    refine AL.own 3 hX zaK hsf rfl trivial rfl rfl ⟨hl2, hI'⟩ hI ?_
    exact AL.nil ⟨.inl rfl, ⟨_, rfl, u8, 1, _, rfl, rfl, rfl⟩, zba (by decide) rfl rfl trivial rfl⟩
  have hb : (ndK n == 14) = false := hb
  have hk14 : ndK n ≠ 14 := fun e => by rw [beq_iff_eq.2 e] at hb; cases hb
  rw [if_neg hk14]
  (repeat (first | refine zae ?_ | refine zac ?_ | refine zab ?_ | refine zad ?_)); refine zaa hX zaK rfl ?_ ?_
  · trivial
  refine zai rfl (fun hb => ?_) (fun hb => ?_)
  · have hb : (ndK n == 15) = true := hb
    have hk := beq_iff_eq.1 hb
    rw [if_pos hk]
    refine AWP.via (σ' := ⟨[(0, ⟨.hptr, ((0 : Nat), (0 : Nat))⟩), (3, ⟨.optr nd, ⟨2, nd, .here⟩⟩)], (2, some (.box nd n)) :: wE ty true ((bf ++ putS (spW zcf) [] : List UInt8)) r, 3⟩) ?_ ?_
    · cases b
      all_goals
        (repeat (first | refine zae ?_ | refine zac ?_ | refine zab ?_ | refine zad ?_)); refine zah ?_
        refine AL.own 1 hX zaK hsf rfl trivial rfl rfl ⟨(by show List.length bf + List.length (spW zcf) + 19 * 0 ≤ 1000000000; have : List.length (spW zcf) ≤ 20 := (by decide); omega), (fun x hx => by cases hx)⟩ hI ?_
        exact AL.nil ⟨⟨rfl, rfl, trivial⟩, ⟨rfl, rfl, rfl, trivial⟩, rfl, rfl⟩
    have hl2 : List.length (bf ++ putS (spW zcf) [] : List UInt8) + 20 * List.length (ndI n) + 1 ≤ 1000000000 := by
      have := zbu (l := []) (fun x hx => by cases hx)
      have hw : List.length (spW zcf) ≤ 20 := by decide
      simp only [putS, List.length_append, List.length_cons, List.length_nil] at this ⊢
      omega
    rw [show (bf ++ (putS (spW zcf) [] ++ zb0 (ndI n)) : List UInt8) = bf ++ putS (spW zcf) [] ++ zb0 (ndI n) from (cat3 _ _ _).symm]
    (repeat (first | refine zae ?_ | refine zac ?_ | refine zab ?_ | refine zad ?_)); refine zah ?_
    refine AL.own 3 hX zaK hsf rfl trivial rfl rfl ⟨hl2, hI'⟩ hI ?_
    exact AL.nil ⟨.inl rfl, ⟨_, rfl, u8, 1, _, rfl, rfl, rfl⟩, zba (by decide) rfl rfl trivial rfl⟩
  have hb : (ndK n == 15) = false := hb
  have hk15 : ndK n ≠ 15 := fun e => by rw [beq_iff_eq.2 e] at hb; cases hb
  rw [if_neg hk15]
  (repeat (first | refine zae ?_ | refine zac ?_ | refine zab ?_ | refine zad ?_)); refine zaa hX zaK rfl ?_ ?_
  · trivial
  refine zai rfl (fun hb => ?_) (fun hb => ?_)
  · have hb : (ndK n == 16) = true := hb
    have hk := beq_iff_eq.1 hb
    rw [if_pos hk]
    obtain ⟨hs0, hs1⟩ := hsc hk
    refine AWP.via (σ' := ⟨[(0, ⟨.hptr, ((0 : Nat), (0 : Nat))⟩), (3, ⟨.optr nd, ⟨2, nd, .here⟩⟩)], (2, some (.box nd n)) :: wE ty true ((bf ++ putS (spW wPos) [ndC n] : List UInt8)) r, 3⟩) ?_ ?_
    · cases b
      all_goals
        (repeat (first | refine zae ?_ | refine zac ?_ | refine zab ?_ | refine zad ?_)); refine zah ?_
        refine AL.own 4 hX zaK hsf rfl trivial rfl rfl ⟨(by show List.length bf + List.length (spW wPos) + 19 * 1 ≤ 1000000000; have : List.length (spW wPos) ≤ 20 := (by decide); omega), (zeo hC)⟩ hI ?_
        exact AL.nil ⟨⟨rfl, rfl, trivial⟩, ⟨rfl, rfl, rfl, trivial⟩, rfl, rfl⟩
    have hl2 : List.length (bf ++ putS (spW wPos) [ndC n] : List UInt8) + List.length (zcg (ndM n)) + 19 * 0 ≤ 1000000000 := by
      have := zbu (zeo hC)
      have hw : List.length (spW wPos) ≤ 20 := by decide
      have hs := zde (ndM n)
      simp only [putS, List.length_append, List.length_cons, List.length_nil] at this ⊢
      omega
    refine AWP.via (σ' := ⟨[(0, ⟨.hptr, ((0 : Nat), (0 : Nat))⟩), (3, ⟨.optr nd, ⟨2, nd, .here⟩⟩)], (2, some (.box nd n)) :: wE ty true ((bf ++ putS (spW wPos) [ndC n] ++ putS (zcg (ndM n)) [] : List UInt8)) r, 3⟩) ?_ ?_
    · cases b
      all_goals
        (repeat (first | refine zae ?_ | refine zac ?_ | refine zab ?_ | refine zad ?_)); refine zah ?_
        refine AL.own 4 hX zaK hsf rfl ⟨hs0, hs1⟩ rfl rfl ⟨hl2, fun x hx => by cases hx⟩ hI ?_
        exact AL.nil ⟨⟨rfl, rfl, trivial⟩, ⟨rfl, rfl, rfl, trivial⟩, rfl, rfl⟩
    have hl2b : List.length (bf ++ putS (spW wPos) [ndC n] ++ putS (zcg (ndM n)) [] : List UInt8) + 20 * List.length (ndI n) + 1 ≤ 1000000000 := by
      have := zbu (zeo hC)
      have hw : List.length (spW wPos) ≤ 20 := by decide
      have hs := zde (ndM n)
      have h0 : List.length (zdB []) = 0 := rfl
      simp only [putS, List.length_append, List.length_cons, List.length_nil] at this h0 ⊢
      omega
    rw [show (bf ++ (putS (spW wPos) [ndC n] ++ (putS (zcg (ndM n)) [] ++ zb0 (ndI n))) : List UInt8) = bf ++ putS (spW wPos) [ndC n] ++ putS (zcg (ndM n)) [] ++ zb0 (ndI n) from (cat4 _ _ _ _).symm]
    (repeat (first | refine zae ?_ | refine zac ?_ | refine zab ?_ | refine zad ?_)); refine zah ?_
    refine AL.own 3 hX zaK hsf rfl trivial rfl rfl ⟨hl2b, hI'⟩ hI ?_
    exact AL.nil ⟨.inl rfl, ⟨_, rfl, u8, 1, _, rfl, rfl, rfl⟩, zba (by decide) rfl rfl trivial rfl⟩
  have hb : (ndK n == 16) = false := hb
  have hk16 : ndK n ≠ 16 := fun e => by rw [beq_iff_eq.2 e] at hb; cases hb
  rw [if_neg hk16]
  (repeat (first | refine zae ?_ | refine zac ?_ | refine zab ?_ | refine zad ?_)); refine zaa hX zaK rfl ?_ ?_
  · trivial
  refine zai rfl (fun hb => ?_) (fun hb => ?_)
  · have hb : (ndK n == 17) = true := hb
    have hk := beq_iff_eq.1 hb
    rw [if_pos hk]
    refine AWP.via (σ' := ⟨[(0, ⟨.hptr, ((0 : Nat), (0 : Nat))⟩), (3, ⟨.optr nd, ⟨2, nd, .here⟩⟩)], (2, some (.box nd n)) :: wE ty true ((bf ++ putS (spW zbQ) [ndN n] : List UInt8)) r, 3⟩) ?_ ?_
    · cases b
      all_goals
        (repeat (first | refine zae ?_ | refine zac ?_ | refine zab ?_ | refine zad ?_)); refine zah ?_
        refine AL.own 4 hX zaK hsf rfl trivial rfl rfl ⟨(by show List.length bf + List.length (spW zbQ) + 19 * 1 ≤ 1000000000; have : List.length (spW zbQ) ≤ 20 := (by decide); omega), (zeo hN)⟩ hI ?_
        exact AL.nil ⟨⟨rfl, rfl, trivial⟩, ⟨rfl, rfl, rfl, trivial⟩, rfl, rfl⟩
    obtain ⟨hb0, hb1, hb2⟩ := hbh hk
    have hl2 : List.length (bf ++ putS (spW zbQ) [ndN n] : List UInt8) + List.length (spW wOf ++ [32] : List UInt8) + 19 * 0 ≤ 1000000000 := by
      have := zbu (zeo hN)
      have hw : List.length (spW zbQ) ≤ 20 := by decide
      have hw2 : List.length (spW wOf ++ [32] : List UInt8) ≤ 20 := by decide
      rw [List.length_append]
      simp only [putS, List.length_append, List.length_cons, List.length_nil] at this hw2 ⊢
      omega
    refine AWP.via (σ' := ⟨[(0, ⟨.hptr, ((0 : Nat), (0 : Nat))⟩), (3, ⟨.optr nd, ⟨2, nd, .here⟩⟩)], (2, some (.box nd n)) :: wE ty true ((bf ++ putS (spW zbQ) [ndN n] ++ putS (spW wOf ++ [32]) [] : List UInt8)) r, 3⟩) ?_ ?_
    · cases b
      all_goals
        (repeat (first | refine zae ?_ | refine zac ?_ | refine zab ?_ | refine zad ?_)); refine zah ?_
        refine AL.own 1 hX zaK hsf rfl trivial rfl rfl ⟨hl2, fun x hx => by cases hx⟩ hI ?_
        exact AL.nil ⟨⟨rfl, rfl, trivial⟩, ⟨rfl, rfl, rfl, trivial⟩, rfl, rfl⟩
    have hl3 : List.length (bf ++ putS (spW zbQ) [ndN n] ++ putS (spW wOf ++ [32]) [] : List UInt8) + List.length (opdF k r (ndR n) 5) + 10000 ≤ 1000000000 := by
      rw [if_neg hk11, if_neg hk12, if_neg hk13, if_neg hk14, if_neg hk15, if_neg hk16, if_pos hk] at hT
      rw [List.length_append, List.length_append] at hT ⊢
      omega
    rw [show (bf ++ (putS (spW zbQ) [ndN n] ++ (putS (spW wOf ++ [32]) [] ++ opdF k r (ndR n) 5)) : List UInt8) = bf ++ putS (spW zbQ) [ndN n] ++ putS (spW wOf ++ [32]) [] ++ opdF k r (ndR n) 5 from (cat4 _ _ _ _).symm]
    (repeat (first | refine zae ?_ | refine zac ?_ | refine zab ?_ | refine zad ?_)); refine zah ?_
    refine AL.own 3 hX zaK hsf rfl trivial rfl rfl ⟨hwf, hb0, hb1, hb2, hl3⟩ hI ?_
    exact AL.nil ⟨.inl rfl, ⟨_, rfl, u8, 1, _, rfl, rfl, rfl⟩, zba (by decide) rfl rfl trivial rfl⟩
  have hb : (ndK n == 17) = false := hb
  have hk17 : ndK n ≠ 17 := fun e => by rw [beq_iff_eq.2 e] at hb; cases hb
  rw [if_neg hk17]
  exfalso
  omega
@[reducible] def zjw (k : Nat) : HCtr := hW [i64] (fun x xs => [WfP x.2.2.1, 0 ≤ xs.1, xs.1.toNat < k, xs.1.toNat < List.length x.2.2.1, List.length x.2.1 + List.length (zcG k x.2.2.1 xs.1) + 10000 ≤ 1000000000]) fun x xs => zcG k x.2.2.1 xs.1
def kOd : Kn := { gmK with C := [(98, zp0), (101, cOps)] }
theorem zbF : KnOk Tryz.prog gmH kOd := zaj.with (.cons zo5 <| .cons zfJ .nil)
def hOd (k : Nat) : List (FuncId × HCtr) := [(66, cWSP), (60, zjw k)]
theorem zlP (k : Nat) (hNd : zaA Tryz.prog gmH 60 (zjw k)) : zaA Tryz.prog gmH 99 (cOpd k) := by
  have hod : HsOk Tryz.prog gmH (hOd k) := .cons zhe <| .cons hNd .nil
  refine zar (K := _) zbF Tryz.func99 rfl rfl (zb8 rfl) Tryz.call99 rfl (Nat.le_of_ble_eq_true rfl) (zdb prT [107]) ?_
  rintro w0 ⟨G, O, K, fix, D, ρ, B⟩ ty hX hG hK hρ hD hinv ⟨(b : Bool), (bf : List UInt8), (r : List Nd), ⟨⟩⟩ ⟨(i : Int), (q : Int), ⟨⟩⟩ hp
  obtain rfl : G = gmH := hG
  obtain rfl : K = 1 := hK
  obtain rfl : ρ = none := hρ
  obtain rfl : D = [] := hD
  have hI := fun w R hR hw => (⟨zaD (ty := ty) hX rfl hinv.1 (ty' := ty) w R hR hw, hinv.2⟩ : bInv prT [107] w R ty)
  obtain ⟨hwf, h0, hk, hr, hT⟩ : WfP r ∧ 0 ≤ i ∧ i.toNat < k ∧ i.toNat < r.length ∧ bf.length + (opdF k r i q).length + 10000 ≤ 1000000000 := hp
  have hil : i < ((r.length : Nat) : Int) := by omega
  change AWP _ _ _ _ _ ⟨[(0, ⟨.hptr, ((0 : Nat), (0 : Nat))⟩), (1, ⟨i64, i⟩), (2, ⟨i64, q⟩)], wE ty b bf r, 2⟩ (wQ _ (cOpd k) ty (.ok ((), (true, ((bf ++ opdF k r i q : List UInt8), (r, ()))))))
  unfold opdF at hT ⊢
  refine zae ?_
  refine AWP.via (σ' := ⟨[(0, ⟨.hptr, ((0 : Nat), (0 : Nat))⟩), (1, ⟨i64, i⟩), (16, ⟨.bool, decide (levS (ndK (zas r i)) ≥ q)⟩)], wE ty b bf r, 2⟩) ?_ ?_
  · cases b
    all_goals
      refine zah ?_
      refine AL.take 2 hX zbF rfl trivial ?_
      refine AL.step (eqP1 _ _ rfl) hX zbF rfl trivial ?_
      refine AL.all hX zbF rfl ⟨h0, hil⟩ ?_
      exact ⟨⟨rfl, rfl, rfl, trivial⟩, ⟨rfl, rfl, trivial⟩, rfl, rfl⟩
  refine zai rfl (fun hb => ?_) (fun hb => ?_)
  · have hb : decide (levS (ndK (zas r i)) ≥ q) = true := hb
    rw [hb] at hT ⊢
    have hT : bf.length + (zcG k r i).length + 10000 ≤ 1000000000 := hT
    show AWP _ _ _ _ _ _ (zjJ _ (wQ _ (cOpd k) ty (.ok ((), (true, ((bf ++ zcG k r i : List UInt8), (r, ())))))))
    cases b
    all_goals
      (repeat (first | refine zae ?_ | refine zac ?_ | refine zab ?_ | refine zad ?_)); refine zah ?_
      refine AL.own 2 hX zbF hod rfl trivial rfl rfl ⟨hwf, h0, hk, hr, hT⟩ hI ?_
      refine AL.nil ?_
      exact AWP.ret ⟨.inr rfl, ⟨_, rfl, u8, 1, _, rfl, rfl, rfl⟩, zba (by decide) rfl rfl trivial rfl⟩
  · have hb : decide (levS (ndK (zas r i)) ≥ q) = false := hb
    rw [hb] at hT ⊢
    have hT : bf.length + ([40] ++ (zcG k r i ++ [41]) : List UInt8).length + 10000 ≤ 1000000000 := hT
    rw [List.length_append, List.length_append] at hT
    have hT1 : bf.length + List.length ([40] : List UInt8) ≤ 1000000000 := by omega
    have hT2 : List.length (bf ++ [40] : List UInt8) + (zcG k r i).length + 10000 ≤ 1000000000 := by rw [List.length_append]; omega
    have hT3 : List.length (bf ++ [40] ++ zcG k r i : List UInt8) + List.length ([41] : List UInt8) ≤ 1000000000 := by rw [List.length_append, List.length_append]; omega
    refine zac ?_
    rw [show (bf ++ parS false (zcG k r i) : List UInt8) = bf ++ [40] ++ zcG k r i ++ [41] from (cat4 _ _ _ _).symm]
    refine AWP.via (σ' := ⟨[(0, ⟨.hptr, ((0 : Nat), (0 : Nat))⟩), (1, ⟨i64, i⟩)], wE ty true ((bf ++ [40] : List UInt8)) r, 2⟩) ?_ ?_
    · cases b
      all_goals
        refine zah ?_
        refine AL.take 2 hX zbF rfl trivial ?_
        refine AL.step (eqP0 _ _ rfl) hX zbF rfl trivial ?_
        refine AL.own 0 hX zbF hod rfl trivial rfl rfl hT1 hI ?_
        exact AL.nil ⟨⟨rfl, rfl, trivial⟩, ⟨rfl, rfl, trivial⟩, rfl, rfl⟩
    (repeat (first | refine zae ?_ | refine zac ?_ | refine zab ?_ | refine zad ?_)); refine zah ?_
    refine AL.own 2 hX zbF hod rfl trivial rfl rfl ⟨hwf, h0, hk, hr, hT2⟩ hI ?_
    refine AL.nil ?_
    refine zan (σ' := ⟨[(0, ⟨.hptr, ((0 : Nat), (0 : Nat))⟩)], wE ty true ((bf ++ [40] ++ zcG k r i : List UInt8)) r, 2⟩) ⟨⟨rfl, trivial⟩, ⟨rfl, rfl, trivial⟩, rfl, rfl⟩ ?_
    refine zah ?_
    refine AL.take 2 hX zbF rfl trivial ?_
    refine AL.step (eqP0 _ _ rfl) hX zbF rfl trivial ?_
    refine AL.own 0 hX zbF hod rfl trivial rfl rfl hT3 hI ?_
    refine AL.nil ?_
    exact ⟨.inl rfl, ⟨_, rfl, u8, 1, _, rfl, rfl, rfl⟩, zba (by decide) rfl rfl trivial rfl⟩
theorem zqF {k : Int} (h : levS k < 4) : (8 ≤ k ∧ k ≤ 10) ∧ 1 ≤ levS k := by
  unfold levS at *
  split at h
  · rename_i e; subst e; decide
  · split at h
    · rename_i e; subst e; decide
    · split at h
      · rename_i e; subst e; decide
      · split at h <;> omega
theorem levS_4 {k : Int} (h : levS k = 4) : 11 ≤ k ∧ k ≤ 17 := by
  unfold levS at h
  split at h
  · omega
  · split at h
    · omega
    · split at h
      · omega
      · split at h
        · assumption
        · omega
theorem levS_5 {k : Int} (h4 : ¬ levS k < 4) (h5 : levS k ≠ 4) : ¬ (8 ≤ k ∧ k ≤ 17) := by
  intro hk
  unfold levS at *
  split at h4
  · omega
  · split at h4
    · omega
    · split at h4
      · omega
      · split at h4
        · rename_i a b c d
          rw [if_neg a, if_neg b, if_neg c, if_pos d] at h5
          exact h5 rfl
        · omega
def hNo (k : Nat) : List (FuncId × HCtr) := [(99, cOpd k), (100, cPut), (102, zpC k), (103, zn6)]
theorem zqz (k : Nat) (hOp : zaA Tryz.prog gmH 99 (cOpd k)) (hSu : zaA Tryz.prog gmH 102 (zpC k)) : zaA Tryz.prog gmH 60 (zjw (k + 1)) := by
  have hno : HsOk Tryz.prog gmH (hNo k) := .cons hOp <| .cons zmX <| .cons hSu <| .cons zo8 .nil
  refine zar (K := _) zbF Tryz.func60 rfl rfl (zb8 rfl) Tryz.call60 rfl (Nat.le_of_ble_eq_true rfl) (zdb prT [107]) ?_
  rintro w0 ⟨G, O, K, fix, D, ρ, B⟩ ty hX hG hK hρ hD hinv ⟨(b : Bool), (bf : List UInt8), (r : List Nd), ⟨⟩⟩ ⟨(i : Int), ⟨⟩⟩ hp
  obtain rfl : G = gmH := hG
  obtain rfl : K = 1 := hK
  obtain rfl : ρ = none := hρ
  obtain rfl : D = [] := hD
  have hI := fun w R hR hw => (⟨zaD (ty := ty) hX rfl hinv.1 (ty' := ty) w R hR hw, hinv.2⟩ : bInv prT [107] w R ty)
  obtain ⟨hwf, h0, hk, hr, hT⟩ : WfP r ∧ 0 ≤ i ∧ i.toNat < k + 1 ∧ i.toNat < r.length ∧ bf.length + (zcG (k + 1) r i).length + 10000 ≤ 1000000000 := hp
  have hil : i < ((r.length : Nat) : Int) := by omega
  obtain ⟨hnum, ⟨hk1, hk18⟩, hL, hR⟩ := hwf.2 i.toNat hr
  have hi : ((i.toNat : Nat) : Int) = i := Int.toNat_of_nonneg h0
  rw [hi] at hnum hk1 hk18 hL hR
  change AWP _ _ _ _ _ ⟨[(0, ⟨.hptr, ((0 : Nat), (0 : Nat))⟩), (1, ⟨i64, i⟩)], wE ty b bf r, 2⟩ (wQ _ (zjw (k + 1)) ty (.ok ((), (true, ((bf ++ zcG (k + 1) r i : List UInt8), (r, ()))))))
  unfold zcG at hT ⊢
  generalize hn : zas r i = n at *
  refine AWP.via (σ' := ⟨[(0, ⟨.hptr, ((0 : Nat), (0 : Nat))⟩), (4, ⟨.optr nd, ⟨2, nd, .here⟩⟩)], (2, some (.box nd n)) :: wE ty b bf r, 3⟩) ?_ ?_
  · subst hn
    cases b
    all_goals
      refine zah ?_
      refine AL.take 2 hX zbF rfl trivial ?_
      refine AL.step (eqP1 _ _ rfl) hX zbF rfl trivial ?_
      refine AL.all hX zbF rfl ⟨h0, hil⟩ ?_
      exact ⟨⟨rfl, rfl, trivial⟩, ⟨rfl, rfl, rfl, trivial⟩, rfl, rfl⟩
  clear hn
  refine AWP.via (σ' := ⟨[(0, ⟨.hptr, ((0 : Nat), (0 : Nat))⟩), (4, ⟨.optr nd, ⟨2, nd, .here⟩⟩), (5, ⟨i64, levS (ndK n)⟩)], (2, some (.box nd n)) :: wE ty b bf r, 3⟩) ?_ ?_
  · refine zah ?_
    refine AL.all hX zbF rfl trivial ?_
    exact ⟨⟨rfl, rfl, rfl, trivial⟩, ⟨rfl, rfl, rfl, trivial⟩, rfl, by cases b <;> rfl⟩
  refine zab ?_
  (repeat (first | refine zae ?_ | refine zac ?_ | refine zab ?_ | refine zad ?_)); refine zaa hX zbF rfl ?_ ?_
  · trivial
  refine zai rfl (fun hb => ?_) (fun hb => ?_)
  · have hb : decide (levS (ndK n) < 4) = true := hb
    have hb := of_decide_eq_true hb
    rw [if_pos hb] at hT ⊢
    obtain ⟨⟨hk8, hk10⟩, hl1⟩ := zqF hb
    obtain ⟨hL0, hL1⟩ := hL hk8 (by omega)
    obtain ⟨hR0, hR1⟩ := hR hk8 (.inl hk10)
    generalize levS (ndK n) = x at hb hT hl1
    change bf.length + (opdF k r (ndL n) x ++ (putS ([32] ++ opWd x ++ [32]) [] ++ opdF k r (ndR n) (x + 1))).length + 10000 ≤ 1000000000 at hT
    have hx3 : x = 1 ∨ x = 2 ∨ x = 3 := by omega
    have hw : List.length (opWd x) ≤ 5 := by rcases hx3 with rfl | rfl | rfl <;> decide
    have hT0 := hT
    rw [List.length_append, List.length_append] at hT
    have hLk : (ndL n).toNat < k := by omega
    have hLr : (ndL n).toNat < r.length := by omega
    have hRk : (ndR n).toNat < k := by omega
    have hRr : (ndR n).toNat < r.length := by omega
    have hTA : bf.length + (opdF k r (ndL n) x).length + 10000 ≤ 1000000000 := by omega
    have hM0 : List.length (putS ([32] ++ opWd x ++ [32]) []) = List.length ([32] ++ opWd x ++ [32] : List UInt8) := by
      show List.length (([32] ++ opWd x ++ [32]) ++ [] : List UInt8) = _
      rw [List.append_nil]
    have hM1 : List.length ([32] ++ opWd x ++ [32] : List UInt8) ≤ 7 := by
      rw [List.length_append, List.length_append]
      show 1 + _ + 1 ≤ 7
      omega
    have hTM : List.length (bf ++ opdF k r (ndL n) x : List UInt8) + List.length ([32] ++ opWd x ++ [32] : List UInt8) + 19 * 0 ≤ 1000000000 := by rw [List.length_append]; omega
    have hTC : List.length (bf ++ opdF k r (ndL n) x ++ putS ([32] ++ opWd x ++ [32]) [] : List UInt8) + (opdF k r (ndR n) (x + 1)).length + 10000 ≤ 1000000000 := by rw [List.length_append, List.length_append]; omega
    have q0 : inR .i64 (x - 1) := zat (by omega) (by omega)
    have q1 : inR .i64 (x + 1) := zat (by omega) (by omega)
    have q2 : (0 : Int) ≤ x - 1 := by omega
    have q3 : x - 1 < ((opsL.length : Nat) : Int) := by show x - 1 < ((3 : Nat) : Int); omega
    have q4 : 1 + List.length (opWd x) ≤ maxLen := by unfold maxLen; omega
    have q5 : List.length ([32] ++ opWd x : List UInt8) + 1 ≤ maxLen := by rw [List.length_append]; show 1 + _ + 1 ≤ _; unfold maxLen; omega
    change AWP _ _ _ _ _ _ (zlh 0 (wQ _ (zjw (k + 1)) ty (.ok ((), (true, ((bf ++ (opdF k r (ndL n) x ++ (putS ([32] ++ opWd x ++ [32]) [] ++ opdF k r (ndR n) (x + 1))) : List UInt8), (r, ())))))))
    rw [show (bf ++ (opdF k r (ndL n) x ++ (putS ([32] ++ opWd x ++ [32]) [] ++ opdF k r (ndR n) (x + 1))) : List UInt8) = bf ++ opdF k r (ndL n) x ++ putS ([32] ++ opWd x ++ [32]) [] ++ opdF k r (ndR n) (x + 1) from (cat4 _ _ _ _).symm]
    refine AWP.via (σ' := ⟨[(0, ⟨.hptr, ((0 : Nat), (0 : Nat))⟩), (4, ⟨.optr nd, ⟨2, nd, .here⟩⟩), (5, ⟨i64, x⟩)], (2, some (.box nd n)) :: wE ty true ((bf ++ opdF k r (ndL n) x : List UInt8)) r, 3⟩) ?_ ?_
    · cases b
      all_goals
        refine zah ?_
        refine AL.own 4 hX zbF hno rfl trivial rfl rfl ⟨hwf, hL0, hLk, hLr, hTA⟩ hI ?_
        exact AL.nil ⟨⟨rfl, rfl, rfl, trivial⟩, ⟨rfl, rfl, rfl, trivial⟩, rfl, rfl⟩
    refine AWP.via (σ' := ⟨[(0, ⟨.hptr, ((0 : Nat), (0 : Nat))⟩), (4, ⟨.optr nd, ⟨2, nd, .here⟩⟩), (5, ⟨i64, x⟩)], (2, some (.box nd n)) :: wE ty true ((bf ++ opdF k r (ndL n) x ++ putS ([32] ++ opWd x ++ [32]) [] : List UInt8)) r, 3⟩) ?_ ?_
    · refine zah ?_
      refine AL.own 9 hX zbF hno rfl ⟨q0, q2, q3, q4, q5⟩ rfl rfl ⟨hTM, fun y hy => by cases hy⟩ hI ?_
      exact AL.nil ⟨⟨rfl, rfl, rfl, trivial⟩, ⟨rfl, rfl, rfl, trivial⟩, rfl, rfl⟩
    refine zah ?_
    refine AL.own 5 hX zbF hno rfl q1 rfl rfl ⟨hwf, hR0, hRk, hRr, hTC⟩ hI ?_
    exact AL.nil ⟨.inl rfl, ⟨_, rfl, u8, 1, _, rfl, rfl, rfl⟩, zba (by decide) rfl rfl trivial rfl⟩
  · have hb : decide (levS (ndK n) < 4) = false := hb
    have hb := of_decide_eq_false hb
    rw [if_neg hb] at hT ⊢
    refine zae ?_
    (repeat (first | refine zae ?_ | refine zac ?_ | refine zab ?_ | refine zad ?_)); refine zaa hX zbF rfl ?_ ?_
    · trivial
    refine zai rfl (fun hc => ?_) (fun hc => ?_)
    · have hc : (levS (ndK n) == 4) = true := hc
      have hc := beq_iff_eq.1 hc
      rw [if_pos hc] at hT ⊢
      obtain ⟨hk11, hk17⟩ := levS_4 hc
      obtain ⟨hL0, hL1⟩ := hL (by omega) hk17
      have hLk : (ndL n).toNat < k := by omega
      have hLr : (ndL n).toNat < r.length := by omega
      have hB : ndK n = 17 -> 0 ≤ ndR n ∧ (ndR n).toNat < k ∧ (ndR n).toNat < r.length := fun e => by
        obtain ⟨hR0, hR1⟩ := hR (by omega) (.inr e)
        exact ⟨hR0, by omega, by omega⟩
      change bf.length + (opdF k r (ndL n) 4 ++ zcr (opdF k r (ndR n) 5) n).length + 10000 ≤ 1000000000 at hT
      rw [List.length_append] at hT
      have hTA : bf.length + (opdF k r (ndL n) 4).length + 10000 ≤ 1000000000 := by omega
      have hTS : List.length (bf ++ opdF k r (ndL n) 4 : List UInt8) + (zcr (opdF k r (ndR n) 5) n).length + 10000 ≤ 1000000000 := by rw [List.length_append]; omega
      change AWP _ _ _ _ _ _ (zlh 0 (wQ _ (zjw (k + 1)) ty (.ok ((), (true, ((bf ++ (opdF k r (ndL n) 4 ++ zcr (opdF k r (ndR n) 5) n) : List UInt8), (r, ())))))))
      rw [show (bf ++ (opdF k r (ndL n) 4 ++ zcr (opdF k r (ndR n) 5) n) : List UInt8) = bf ++ opdF k r (ndL n) 4 ++ zcr (opdF k r (ndR n) 5) n from (cat3 _ _ _).symm]
      refine AWP.via (σ' := ⟨[(0, ⟨.hptr, ((0 : Nat), (0 : Nat))⟩), (4, ⟨.optr nd, ⟨2, nd, .here⟩⟩)], (2, some (.box nd n)) :: wE ty true ((bf ++ opdF k r (ndL n) 4 : List UInt8)) r, 3⟩) ?_ ?_
      · cases b
        all_goals
          refine zah ?_
          refine AL.own 3 hX zbF hno rfl trivial rfl rfl ⟨hwf, hL0, hLk, hLr, hTA⟩ hI ?_
          exact AL.nil ⟨⟨rfl, rfl, trivial⟩, ⟨rfl, rfl, rfl, trivial⟩, rfl, rfl⟩
      refine zah ?_
      refine AL.own 2 hX zbF hno rfl trivial rfl rfl ⟨hwf, hnum, hk11, hk17, hB, hTS⟩ hI ?_
      exact AL.nil ⟨.inl rfl, ⟨_, rfl, u8, 1, _, rfl, rfl, rfl⟩, zba (by decide) rfl rfl trivial rfl⟩
    · have hc : (levS (ndK n) == 4) = false := hc
      have hc : levS (ndK n) ≠ 4 := fun e => by rw [beq_iff_eq.2 e] at hc; cases hc
      rw [if_neg hc] at hT ⊢
      have h5 := levS_5 hb hc
      have hkl : ndK n ≤ 7 ∨ ndK n = 18 := by omega
      have hT : bf.length + (zdL n).length + 10000 ≤ 1000000000 := hT
      have hT1 : bf.length + 10000 ≤ 1000000000 := by omega
      cases b
      all_goals
        refine zah ?_
        refine AL.own 2 hX zbF hno rfl trivial rfl rfl ⟨hT1, hnum, hk1, hkl⟩ hI ?_
        exact AL.nil ⟨.inl rfl, ⟨_, rfl, u8, 1, _, rfl, rfl, rfl⟩, zba (by decide) rfl rfl trivial rfl⟩
theorem zpL : ∀ k, zaA Tryz.prog gmH 60 (zjw k) ∧ zaA Tryz.prog gmH 99 (cOpd k)
  | 0 => ⟨zdM (zb8 rfl) Tryz.call60 fun x xs h => absurd h.2.2.1 (Nat.not_lt_zero _), zdM (zb8 rfl) Tryz.call99 fun x xs h => absurd h.2.2.1 (Nat.not_lt_zero _)⟩
  | k + 1 => by
    obtain ⟨h1, h2⟩ := zpL k
    have h3 := zqz k h2 (zlp k h2)
    exact ⟨h3, zlP (k + 1) h3⟩
set_option maxRecDepth 10000
theorem zkI {n : Nd} (h : zbA n = true) : zjC n := by
  obtain ⟨⟨k1, k2⟩, hl, _⟩ := zaF h
  have hs := zpl h
  have key : (zbS (ndC n) ∧ zbS (ndN n) ∧ zbS (ndM n)) ∧ (∀ x ∈ ndI n, zbS x) ∧ (ndK n = 7 -> 0 ≤ ndL n ∧ ndL n ≤ 1) ∧ (ndK n = 16 -> 0 ≤ ndM n ∧ ndM n ≤ 1) := by
    rcases (show ndK n = 1 ∨ ndK n = 2 ∨ ndK n = 3 ∨ ndK n = 4 ∨ ndK n = 5 ∨ ndK n = 6 ∨ ndK n = 7 ∨ ndK n = 8 ∨ ndK n = 9 ∨ ndK n = 10 ∨ ndK n = 11 ∨ ndK n = 12 ∨ ndK n = 13 ∨ ndK n = 14 ∨ ndK n = 15 ∨ ndK n = 16 ∨ ndK n = 17 ∨ ndK n = 18 by omega) with k | k | k | k | k | k | k | k | k | k | k | k | k | k | k | k | k | k
    · obtain ⟨e, b1, b2⟩ := fld1 h k
      have eC := congrArg ndC e
      have eN := congrArg ndN e
      have eM := congrArg ndM e
      have eI := congrArg ndI e
      have eC : ndC n = 0 := eC
      have eN : ndN n = ndN n := eN
      have eM : ndM n = ndM n := eM
      have eI : ndI n = [] := eI
      refine ⟨⟨⟨by omega, by omega⟩, ⟨by omega, by omega⟩, ⟨by omega, by omega⟩⟩, ?_, fun e => by omega, fun e => by omega⟩
      rw [eI]
      exact fun x hx => by cases hx
    · obtain ⟨e, bc, b1, b2⟩ := fld2 h k
      have eC := congrArg ndC e
      have eN := congrArg ndN e
      have eM := congrArg ndM e
      have eI := congrArg ndI e
      have eC : ndC n = ndC n := eC
      have eN : ndN n = ndN n := eN
      have eM : ndM n = ndM n := eM
      have eI : ndI n = [] := eI
      refine ⟨⟨⟨by omega, by omega⟩, ⟨by omega, by omega⟩, ⟨by omega, by omega⟩⟩, ?_, fun e => by omega, fun e => by omega⟩
      rw [eI]
      exact fun x hx => by cases hx
    · obtain ⟨e, bc, ⟨l1, l2, l3⟩⟩ := fld3 h k
      have eC := congrArg ndC e
      have eN := congrArg ndN e
      have eM := congrArg ndM e
      have eI := congrArg ndI e
      have eC : ndC n = ndC n := eC
      have eN : ndN n = 0 := eN
      have eM : ndM n = 0 := eM
      have eI : ndI n = ndI n := eI
      refine ⟨⟨⟨by omega, by omega⟩, ⟨by omega, by omega⟩, ⟨by omega, by omega⟩⟩, ?_, fun e => by omega, fun e => by omega⟩
      exact fun x hx => by have := zb7 (by decide) (by decide) l3 x hx; exact ⟨by have := this.1; omega, by have := this.2; omega⟩
    · obtain ⟨e, bc, ⟨l1, l2, l3⟩⟩ := fld4 h k
      have eC := congrArg ndC e
      have eN := congrArg ndN e
      have eM := congrArg ndM e
      have eI := congrArg ndI e
      have eC : ndC n = ndC n := eC
      have eN : ndN n = 0 := eN
      have eM : ndM n = 0 := eM
      have eI : ndI n = ndI n := eI
      refine ⟨⟨⟨by omega, by omega⟩, ⟨by omega, by omega⟩, ⟨by omega, by omega⟩⟩, ?_, fun e => by omega, fun e => by omega⟩
      exact fun x hx => by have := zb7 (by decide) (by decide) l3 x hx; exact ⟨by have := this.1; omega, by have := this.2; omega⟩
    · obtain ⟨e, ⟨l1, l2, l3⟩⟩ := fld5 h k
      have eC := congrArg ndC e
      have eN := congrArg ndN e
      have eM := congrArg ndM e
      have eI := congrArg ndI e
      have eC : ndC n = 0 := eC
      have eN : ndN n = 0 := eN
      have eM : ndM n = 0 := eM
      have eI : ndI n = ndI n := eI
      refine ⟨⟨⟨by omega, by omega⟩, ⟨by omega, by omega⟩, ⟨by omega, by omega⟩⟩, ?_, fun e => by omega, fun e => by omega⟩
      exact fun x hx => by have := zb7 (by decide) (by decide) l3 x hx; exact ⟨by have := this.1; omega, by have := this.2; omega⟩
    · obtain ⟨e, bc, ⟨l1, l2, l3⟩⟩ := fld6 h k
      have eC := congrArg ndC e
      have eN := congrArg ndN e
      have eM := congrArg ndM e
      have eI := congrArg ndI e
      have eC : ndC n = ndC n := eC
      have eN : ndN n = 0 := eN
      have eM : ndM n = 0 := eM
      have eI : ndI n = ndI n := eI
      refine ⟨⟨⟨by omega, by omega⟩, ⟨by omega, by omega⟩, ⟨by omega, by omega⟩⟩, ?_, fun e => by omega, fun e => by omega⟩
      exact fun x hx => by have := zb7 (by decide) (by decide) l3 x hx; exact ⟨by have := this.1; omega, by have := this.2; omega⟩
    · obtain ⟨e, bc, b1, bz, b2, b3⟩ := fld7 h k
      have eC := congrArg ndC e
      have eN := congrArg ndN e
      have eM := congrArg ndM e
      have eI := congrArg ndI e
      have eC : ndC n = ndC n := eC
      have eN : ndN n = ndN n := eN
      have eM : ndM n = ndM n := eM
      have eI : ndI n = [] := eI
      refine ⟨⟨⟨by omega, by omega⟩, ⟨by omega, by omega⟩, ⟨by omega, by omega⟩⟩, ?_, fun e => by omega, fun e => by omega⟩
      rw [eI]
      exact fun x hx => by cases hx
    · have e := fld8 h k
      have eC := congrArg ndC e
      have eN := congrArg ndN e
      have eM := congrArg ndM e
      have eI := congrArg ndI e
      have eC : ndC n = 0 := eC
      have eN : ndN n = 0 := eN
      have eM : ndM n = 0 := eM
      have eI : ndI n = [] := eI
      refine ⟨⟨⟨by omega, by omega⟩, ⟨by omega, by omega⟩, ⟨by omega, by omega⟩⟩, ?_, fun e => by omega, fun e => by omega⟩
      rw [eI]
      exact fun x hx => by cases hx
    · have e := fld9 h k
      have eC := congrArg ndC e
      have eN := congrArg ndN e
      have eM := congrArg ndM e
      have eI := congrArg ndI e
      have eC : ndC n = 0 := eC
      have eN : ndN n = 0 := eN
      have eM : ndM n = 0 := eM
      have eI : ndI n = [] := eI
      refine ⟨⟨⟨by omega, by omega⟩, ⟨by omega, by omega⟩, ⟨by omega, by omega⟩⟩, ?_, fun e => by omega, fun e => by omega⟩
      rw [eI]
      exact fun x hx => by cases hx
    · have e := fld10 h k
      have eC := congrArg ndC e
      have eN := congrArg ndN e
      have eM := congrArg ndM e
      have eI := congrArg ndI e
      have eC : ndC n = 0 := eC
      have eN : ndN n = 0 := eN
      have eM : ndM n = 0 := eM
      have eI : ndI n = [] := eI
      refine ⟨⟨⟨by omega, by omega⟩, ⟨by omega, by omega⟩, ⟨by omega, by omega⟩⟩, ?_, fun e => by omega, fun e => by omega⟩
      rw [eI]
      exact fun x hx => by cases hx
    · obtain ⟨e, b1⟩ := zq7 h k
      have eC := congrArg ndC e
      have eN := congrArg ndN e
      have eM := congrArg ndM e
      have eI := congrArg ndI e
      have eC : ndC n = 0 := eC
      have eN : ndN n = ndN n := eN
      have eM : ndM n = 0 := eM
      have eI : ndI n = [] := eI
      refine ⟨⟨⟨by omega, by omega⟩, ⟨by omega, by omega⟩, ⟨by omega, by omega⟩⟩, ?_, fun e => by omega, fun e => by omega⟩
      rw [eI]
      exact fun x hx => by cases hx
    · obtain ⟨e, b1⟩ := zq6 h k
      have eC := congrArg ndC e
      have eN := congrArg ndN e
      have eM := congrArg ndM e
      have eI := congrArg ndI e
      have eC : ndC n = 0 := eC
      have eN : ndN n = ndN n := eN
      have eM : ndM n = 0 := eM
      have eI : ndI n = [] := eI
      refine ⟨⟨⟨by omega, by omega⟩, ⟨by omega, by omega⟩, ⟨by omega, by omega⟩⟩, ?_, fun e => by omega, fun e => by omega⟩
      rw [eI]
      exact fun x hx => by cases hx
    · obtain ⟨e, b1⟩ := zq5 h k
      have eC := congrArg ndC e
      have eN := congrArg ndN e
      have eM := congrArg ndM e
      have eI := congrArg ndI e
      have eC : ndC n = 0 := eC
      have eN : ndN n = ndN n := eN
      have eM : ndM n = 0 := eM
      have eI : ndI n = [] := eI
      refine ⟨⟨⟨by omega, by omega⟩, ⟨by omega, by omega⟩, ⟨by omega, by omega⟩⟩, ?_, fun e => by omega, fun e => by omega⟩
      rw [eI]
      exact fun x hx => by cases hx
    · obtain ⟨e, ⟨l1, l2, l3⟩⟩ := zq4 h k
      have eC := congrArg ndC e
      have eN := congrArg ndN e
      have eM := congrArg ndM e
      have eI := congrArg ndI e
      have eC : ndC n = 0 := eC
      have eN : ndN n = 0 := eN
      have eM : ndM n = 0 := eM
      have eI : ndI n = ndI n := eI
      refine ⟨⟨⟨by omega, by omega⟩, ⟨by omega, by omega⟩, ⟨by omega, by omega⟩⟩, ?_, fun e => by omega, fun e => by omega⟩
      exact fun x hx => by have := zb7 (by decide) (by decide) l3 x hx; exact ⟨by have := this.1; omega, by have := this.2; omega⟩
    · obtain ⟨e, ⟨l1, l2, l3⟩⟩ := zq3 h k
      have eC := congrArg ndC e
      have eN := congrArg ndN e
      have eM := congrArg ndM e
      have eI := congrArg ndI e
      have eC : ndC n = 0 := eC
      have eN : ndN n = 0 := eN
      have eM : ndM n = 0 := eM
      have eI : ndI n = ndI n := eI
      refine ⟨⟨⟨by omega, by omega⟩, ⟨by omega, by omega⟩, ⟨by omega, by omega⟩⟩, ?_, fun e => by omega, fun e => by omega⟩
      exact fun x hx => by have := zb7 (by decide) (by decide) l3 x hx; exact ⟨by have := this.1; omega, by have := this.2; omega⟩
    · obtain ⟨e, bc, ⟨l1, l2, l3⟩, b1⟩ := zq2 h k
      have eC := congrArg ndC e
      have eN := congrArg ndN e
      have eM := congrArg ndM e
      have eI := congrArg ndI e
      have eC : ndC n = ndC n := eC
      have eN : ndN n = 0 := eN
      have eM : ndM n = ndM n := eM
      have eI : ndI n = ndI n := eI
      refine ⟨⟨⟨by omega, by omega⟩, ⟨by omega, by omega⟩, ⟨by omega, by omega⟩⟩, ?_, fun e => by omega, fun e => by omega⟩
      exact fun x hx => by have := zb7 (by decide) (by decide) l3 x hx; exact ⟨by have := this.1; omega, by have := this.2; omega⟩
    · obtain ⟨e, b1⟩ := zq1 h k
      have eC := congrArg ndC e
      have eN := congrArg ndN e
      have eM := congrArg ndM e
      have eI := congrArg ndI e
      have eC : ndC n = 0 := eC
      have eN : ndN n = ndN n := eN
      have eM : ndM n = 0 := eM
      have eI : ndI n = [] := eI
      refine ⟨⟨⟨by omega, by omega⟩, ⟨by omega, by omega⟩, ⟨by omega, by omega⟩⟩, ?_, fun e => by omega, fun e => by omega⟩
      rw [eI]
      exact fun x hx => by cases hx
    · obtain ⟨e, bn⟩ := zq0 h k
      have eC := congrArg ndC e
      have eN := congrArg ndN e
      have eM := congrArg ndM e
      have eI := congrArg ndI e
      have eC : ndC n = 0 := eC
      have eN : ndN n = 0 := eN
      have eM : ndM n = 0 := eM
      have eI : ndI n = [] := eI
      refine ⟨⟨⟨by omega, by omega⟩, ⟨by omega, by omega⟩, ⟨by omega, by omega⟩⟩, ?_, fun e => by omega, fun e => by omega⟩
      rw [eI]
      exact fun x hx => by cases hx
  exact ⟨key.1, key.2.1, by omega, by omega, key.2.2⟩
theorem wfp_of {r : List Nd} (h : wfS r = true) : WfP r := by
  obtain ⟨⟨h1, h2⟩, h3, h4⟩ := zdo h
  refine ⟨by omega, fun j hj => ?_⟩
  obtain ⟨f1, f2⟩ := zcB h3 hj
  obtain ⟨l1, l2⟩ := zkL h3 j hj
  exact ⟨zkI f1, (zaF f1).1, l1, l2⟩
theorem zeL (c : Bool) (t : List UInt8) : (parS c t).length ≤ t.length + 2 := by
  cases c with
  | true => show t.length ≤ _; omega
  | false => show ([40] ++ (t ++ [41]) : List UInt8).length ≤ _; simp
end Go.Proofs.YtpeaigpfddalcaaGreatDoor
