/-
  TopEdits: VLk, RpK, RpL, RpM, RpN.
-/
import Derived.Test.YtebfahobllghnaaGreatDoorEdB1
import Derived.Test.YtebfahobllghnaaGreatDoorEdB4
set_option linter.unusedSimpArgs false
set_option linter.unusedVariables false
namespace Go.Proofs.YtebfahobllghnaaGreatDoor
namespace X
open Go.RowKit B
structure KLoop where
  s0 : SL
  l0 : ML
  nx0 : Nat
  pc0 : PC
  s1 : SL
  l1 : ML
  nx1 : Nat
  pc1 : PC
  ex : Option Nat
def contQ (P : Program) (body : Code) (ex : Option Nat) (Q : Exit → Act → World → Prop) (a : Act) (w : World) : Prop := match ex with
  | none => LoopWp P body Q a w
  | some b => Q (.exit b) a w
def LoopOk (P : Program) (ρ : Rho) (body : Code) (k : KLoop) : Prop := Sat ρ k.pc0 → Sat ρ k.pc1 ∧ k.nx0 ≤ k.nx1 ∧ (∀ t, (mkU k.l0 .lf).get t = none → (mkU k.l1 .lf).get t ≠ none → k.nx0 ≤ t ∧ t < k.nx1) ∧
  ∀ (n : Nat) (Q : Exit → Act → World → Prop) (a : Act) (w : World) (θ : Th), dstOk n body = true → At ρ n (mkUV k.s0 .lf) (mkU k.l0 .lf) a w θ → (∀ t, k.nx0 ≤ t → t < k.nx1 → θ t = none) →
    (∀ a' w' θ', At ρ n (mkUV k.s1 .lf) (mkU k.l1 .lf) a' w' θ' → SP ρ k.nx0 k.nx1 θ (mkU k.l0 .lf).get w θ' (mkU k.l1 .lf).get w' → contQ P body k.ex Q a' w') → LoopWp P body Q a w
def svs : SL → List SV
  | [] => []
  | (_, v) :: l => v :: svs l
def slV (s : Tr SV) : SL → (List SV → Bool) → Bool
  | [], K => K []
  | (i, _) :: l, K => match s.get i with
    | some v => slV s l fun vs => K (v :: vs)
    | none => false
def renS (al : Al) (nx : Nat) : SL → SL
  | [] => []
  | (i, v) :: l => (i, renV al nx v) :: renS al nx l
def knH (rs : Rules) (k : KLoop) (s : Tr SV) (m : Mem) (nx : Nat) (pc : PC) (K : Tr SV → Mem → PC → Bool) : Bool :=
  slV s k.s0 fun args => mkV k.s0 .lf fun _ => mkK k.l0 .lf fun m0 => prGo 0 m0 m 100000 (prV 50 (.ag (svs k.s0)) (.ag args) []) [] fun al =>
    match alOk 0 k.nx0 al && valsLt nx al && sameVs al 0 rs pc (svs k.s0) args && allL (fun t b => match m.get (tagOf al 0 t) with
      | some b' => tagOk al 0 t (tagOf al 0 t) && sameB al 0 rs pc b b'
      | none => false) k.l0 && allP pc k.pc0 && noDup k.l1 with
    | true => selK (tagsOf al 0 k.l0) m .lf fun mC => rmN (tagsOf al 0 k.l0) m fun m1 => mkK k.l1 .lf fun _ => mkK (renL al nx k.l1) .lf fun _ => mkK (renL al nx k.l1) m1 fun mF =>
      mkV k.s1 .lf fun _ => mkV (renS al nx k.s1) .lf fun sF => K sF mF (k.pc1 ++ pc)
    | false => false
section
variable {ρ : Rho}
theorem slV_yl {s : Tr SV} : ∀ {l : SL}, Yl (fun K => slV s l K) fun r => ∀ (θ : Th) (a : Act), (∀ k sv, s.get k = some sv → den ρ θ sv = some (get a k)) → dens ρ θ r = some (l.map fun x => get a x.1)
  | [] => Yl.pure [] fun θ a h => rfl
  | (i, _) :: l => by
    unfold slV
    split
    · rename_i v hv
      exact Yl.bind (G := fun vs K => K (v :: vs)) (slV_yl (l := l)) fun vs h => Yl.pure (v :: vs) fun θ a ha => by
        simp only [dens, ha i v hv, h θ a ha, List.map_cons, Option.bind_some, Option.map_some]
    · exact Yl.no
theorem svs_mem {θ : Th} {a : Act} : ∀ {l : SL}, dens ρ θ (svs l) = some (l.map fun x => get a x.1) → ∀ i v, (i, v) ∈ l → den ρ θ v = some (get a i)
  | [], _, i, v, h => by cases h
  | (j, u) :: l, hd, i, v, h => by
    simp only [svs, dens, List.map_cons, Option.bind_eq_some_iff, Option.map_eq_some_iff] at hd
    obtain ⟨x, hx, ys, hy, e⟩ := hd
    injection e with e1 e2
    rcases List.mem_cons.1 h with h | h
    · cases h; rw [hx, e1]
    · exact svs_mem (by rw [hy, e2]) i v h
theorem lookS_ren {al : Al} {nx t : Nat} : ∀ {l : SL} {o o' : Option SV}, o' = o.map (renV al nx) → lookS (renS al nx l) t o' = (lookS l t o).map (renV al nx)
  | [], o, o', h => h
  | (j, u) :: l, o, o', h => by
    simp only [renS, lookS]
    refine lookS_ren ?_
    split
    · rfl
    · exact h
theorem knH_yl {P : Program} {rs : Rules} (hr : RulesOk ρ rs) {body : Code} {k : KLoop} (hk : LoopOk P ρ body k) {s : Tr SV} {m : Mem} {nx n : Nat} {pc : PC} (hd : dstOk n body = true) (hs : Sat ρ pc) :
    Yl (fun K => knH rs k s m nx pc fun s m pc => K (s, m, pc)) (fun o : Tr SV × Mem × PC => Sat ρ o.2.2 ∧ (∀ t, m.get t = none → o.2.1.get t ≠ none → nx ≤ t ∧ t < nx + k.nx1) ∧ ∀ (Q : Exit → Act → World → Prop) (a : Act) (w : World) (θ : Th), At ρ n s m a w θ → (∀ t, nx ≤ t → t < nx + k.nx1 → θ t = none) →
      (∀ a' w' θ', At ρ n o.1 o.2.1 a' w' θ' → SP ρ nx (nx + k.nx1) θ m.get w θ' o.2.1.get w' → contQ P body k.ex Q a' w') → LoopWp P body Q a w) := by
  have lfB : ∀ t, Tr.get (α := Blk) .lf t = none := fun t => by simp [Tr.get]
  have lfS : ∀ t, Tr.get (α := SV) .lf t = none := fun t => by simp [Tr.get]
  unfold knH
  refine Yl.bind (slV_yl (ρ := ρ)) fun args hargs0 => Yl.bind mkV_yl fun s0 hs0 => Yl.bind mkK_yl fun m0 hm0 => Yl.bind prGo_yl fun al _ => ?_
  split
  · rename_i hc
    simp only [Bool.and_eq_true] at hc
    obtain ⟨⟨⟨⟨⟨c1, c2⟩, c3⟩, c4⟩, c5⟩, c6⟩ := hc
    have c4 := allL_ok c4
    refine Yl.bind selK_yl fun mC hmC => Yl.bind rmN_yl fun m1 hm1 => Yl.bind mkK_yl fun mX hmX => Yl.bind mkK_yl fun mD hmD => Yl.bind mkK_yl fun mF hmF => Yl.bind mkV_yl fun sX hsX => Yl.bind mkV_yl fun sF hsF => Yl.pure (α := Tr SV × Mem × PC) (sF, mF, k.pc1 ++ pc) ?_
    obtain ⟨hp1, hle, hnew0, LS⟩ := hk (allP_ok hs c5)
    rw [← hs0.1, ← hm0.1, ← hmX.1, ← hsX.1] at LS
    rw [← hm0.1, ← hmX.1] at hnew0
    have mCm : ∀ t, mC.get t ≠ none → t ∈ tagsOf al 0 k.l0 ∧ mC.get t = m.get t := fun t h => by
      by_cases hin : t ∈ tagsOf al 0 k.l0
      · exact ⟨hin, (hmC t).1 hin⟩
      · rw [(hmC t).2 hin, lfB] at h; exact absurd rfl h
    have tB : ∀ t v, m0.get t = some v → (t, v) ∈ k.l0 := fun t v h => by
      rw [hm0.2, lfB] at h
      rcases lookU_mem h with h | h
      · exact h
      · cases h
    have h0 : ∀ t b, m0.get t = some b → ∃ u b', findT al t = some u ∧ mC.get u = some b' ∧ sameB al 0 rs pc b b' = true := fun t b hb => by
      have hin := tB t b hb
      have q := c4 t b hin
      split at q
      · rename_i b' hb'
        simp only [Bool.and_eq_true] at q
        have hu : findT al t = some (tagOf al 0 t) := by
          have q1 := q.1
          unfold tagOk at q1
          have hb0 : Nat.blt t 0 = false := rfl
          simp only [hb0] at q1
          cases hx : findT al t with
          | none => rw [hx] at q1; cases q1
          | some x => rw [hx] at q1; rw [Nat.eq_of_beq_eq_true q1]
        exact ⟨_, b', hu, by rw [(hmC _).1 (mem_tagsOf hin)]; exact hb', q.2⟩
      · cases q
    have h1 : ∀ t' b', mD.get t' = some b' → ∃ t b, mX.get t = some b ∧ t' = renT al nx t ∧ b' = renB al nx b := fun t' b' hb' => by
      rw [hmD.2, lfB] at hb'
      rcases lookU_mem hb' with hb' | hb'
      · obtain ⟨t0, b0, e1, e2, e3⟩ := mem_renL hb'
        exact ⟨t0, b0, by rw [hmX.2]; exact noDup_look c6 e1, e2, e3⟩
      · cases hb'
    have h00 : ∀ t, m0.get t ≠ none → ∃ u, findT al t = some u ∧ mC.get u ≠ none := fun t ht => by
      cases hb : m0.get t with
      | none => exact absurd hb ht
      | some b => obtain ⟨u, b', q1, q2, _⟩ := h0 t b hb; exact ⟨u, q1, by rw [q2]; simp⟩
    have hnew : ∀ t, mX.get t ≠ none → (∃ u, findT al t = some u ∧ mC.get u ≠ none) ∨ (k.nx0 ≤ t ∧ t < k.nx1) := fun t ht => by
      by_cases q : m0.get t = none
      · exact .inr (hnew0 t q ht)
      · exact .inl (h00 t q)
    have nw : ∀ t, m.get t = none → mD.get t ≠ none → nx ≤ t ∧ t < nx + k.nx1 := fun t q1 q2 => by
      cases hb : mD.get t with
      | none => exact absurd hb q2
      | some b =>
        obtain ⟨t0, b0, e1, rfl, _⟩ := h1 t b hb
        rcases hnew t0 (by rw [e1]; simp) with ⟨u, z1, z2⟩ | z
        · unfold renT at q1
          rw [z1] at q1
          have := (mCm u z2).2
          exact absurd (this.trans q1) z2
        · unfold renT
          split
          · rename_i u hu
            have := alOk_rng c1 _ _ hu
            omega
          · show nx ≤ nx + t0 ∧ nx + t0 < nx + k.nx1
            omega
    have fF : ∀ t b, mF.get t = some b → mD.get t = some b ∨ (mD.get t = none ∧ t ∉ tagsOf al 0 k.l0 ∧ m.get t = some b) := fun t b h => by
      have q1 := hmF.2 t
      have q2 := hmD.2 t
      rw [lfB] at q2
      rw [h, lookU_none, ← q2] at q1
      cases hq : mD.get t with
      | some b' => rw [hq] at q1; simp only at q1; exact .inl (by rw [q1])
      | none =>
        rw [hq] at q1
        simp only at q1
        by_cases hin : t ∈ tagsOf al 0 k.l0
        · rw [(hm1 t).1 hin] at q1; cases q1
        · exact .inr ⟨rfl, hin, by rw [← (hm1 t).2 hin, ← q1]⟩
    refine ⟨sat_app hp1 hs, fun t q1 q2 => ?_, fun Q a w θ' hA hfr cont => ?_⟩
    · cases hb : mF.get t with
      | none => exact absurd hb q2
      | some b =>
        rcases fF t b hb with h | ⟨_, _, h⟩
        · exact nw t q1 (by rw [h]; simp)
        · rw [q1] at h; cases h
    · have hM : MemOk ρ θ' mC.get w := hA.mem.sub fun t b hb => by rw [← (mCm t (by rw [hb]; simp)).2]; exact hb
      let θ0 : Th := fun t => (findT al t).bind θ'
      have tk : ∀ t u, findT al t = some u → θ0 t = θ' u := fun t u hq => by
        show (findT al t).bind θ' = _
        rw [hq]; rfl
      have hθ : TagsOk al 0 θ0 θ' := fun t u hq => by
        unfold tagOk at hq
        have hb : Nat.blt t 0 = false := rfl
        simp only [hb] at hq
        cases hx : findT al t with
        | none => rw [hx] at hq; cases hq
        | some x =>
          rw [hx] at hq
          have := Nat.eq_of_beq_eq_true hq
          subst this
          exact tk t x hx
      have ownA : ∀ {fa : Bool}, ∀ t g, Own fa θ0 m0.get t g → ∃ u, findT al t = some u ∧ Own fa θ' mC.get u g := fun t g ho => by
        cases hb : m0.get t with
        | none => exact absurd hb ho.ne
        | some b =>
          obtain ⟨u, b', q1, q2, q3⟩ := h0 t b hb
          exact ⟨u, q1, own_same (fun b2 e2 => by rw [hb] at e2; cases e2; exact ⟨b', q2, sameB_kind q3⟩) (tk t u q1) ho⟩
      have hus0 : dens ρ θ0 (svs k.s0) = some (k.s0.map fun x => get a x.1) := (sameVs_ok hs hr hθ c3).trans (hargs0 θ' a hA.slot)
      have hM0 : MemOk ρ θ0 m0.get w := by
        refine ⟨fun t b hb => ?_, fun s t g q1 q2 => ?_⟩
        · obtain ⟨u, b', q1, q2, q3⟩ := h0 t b hb
          exact sameB_ok hs hr hθ (tk t u q1) q3 (hM.holds u b' q2)
        obtain ⟨u, z1, z2⟩ := ownA s g q1
        obtain ⟨v, y1, y2⟩ := ownA t g q2
        have := hM.inj u v g z2 y2
        subst this
        exact alOk_inj c1 _ _ _ z1 y1
      have hfr0 : ∀ t, k.nx0 ≤ t → t < k.nx1 → θ0 t = none := fun t q1 q2 => by
        show (findT al t).bind θ' = none
        cases hq : findT al t with
        | none => rfl
        | some u => have := alOk_rng c1 _ _ hq; omega
      have hA0 : At ρ n s0 m0 a w θ0 := ⟨hA.defers, hA.size, (fun i v hv => by
        rw [hs0.2, lfS] at hv
        rcases lookS_mem hv with hv | hv
        · exact svs_mem hus0 i v hv
        · cases hv), hM0⟩
      refine LS n _ a w θ0 hd hA0 hfr0 fun a' w' θ2 hA2 hsp0 => ?_
      have hsp : SP ρ k.nx0 k.nx1 θ0 m0.get w θ2 mX.get w' := hsp0
      let θ3 : Th := fun t' => if nx + k.nx0 ≤ t' ∧ t' < nx + k.nx1 then θ2 (t' - nx) else θ' t'
      have le3 : ThLe θ' θ3 := fun t x hx => by
        show (if nx + k.nx0 ≤ t ∧ t < nx + k.nx1 then θ2 (t - nx) else θ' t) = some x
        rw [if_neg fun q => by have := hfr t (by omega) (by omega); rw [this] at hx; cases hx]
        exact hx
      have up : ∀ t x, θ2 t = some x → θ3 (renT al nx t) = some x := fun t x hx => by
        rcases hsp.new t (by rw [hx]; simp) with q | q
        · cases hq : findT al t with
          | none => exact absurd (show (findT al t).bind θ' = none by rw [hq]; rfl) q
          | some u =>
            unfold renT
            rw [hq]
            refine le3 u x ?_
            cases hy : θ' u with
            | none => exact absurd ((tk t u hq).trans hy) q
            | some y =>
              have := hsp.le t y ((tk t u hq).trans hy)
              rw [hx] at this
              exact this.symm
        · have hq : findT al t = none := by
            cases hq : findT al t with
            | none => rfl
            | some u => have := alOk_rng c1 _ _ hq; omega
          unfold renT
          rw [hq]
          show (if nx + k.nx0 ≤ nx + t ∧ nx + t < nx + k.nx1 then θ2 (nx + t - nx) else θ' (nx + t)) = some x
          rw [if_pos (by omega), show nx + t - nx = t by omega]
          exact hx
      have ownD : ∀ {fa : Bool}, ∀ t' g, Own fa θ3 mD.get t' g → ∃ t, t' = renT al nx t ∧ Own fa θ2 mX.get t g := fun t' g ho => by
        cases hb : mD.get t' with
        | none => exact absurd hb ho.ne
        | some b' =>
          obtain ⟨t, b, y1, rfl, rfl⟩ := h1 t' b' hb
          obtain ⟨g1, c1, x1⟩ := (hsp.mem.holds t b y1).th
          obtain ⟨x, e, f⟩ := ho
          rw [up t _ x1] at e
          cases e
          rw [hb] at f
          exact ⟨t, rfl, _, x1, by rw [y1]; exact FtB_kind (renB_kind al nx b) f⟩
      have hmem : MemOk ρ θ3 mD.get w' := by
        refine ⟨fun t' b' hb' => ?_, fun s' t' g q1 q2 => ?_⟩
        · obtain ⟨t, b, q1, rfl, rfl⟩ := h1 t' b' hb'
          exact renB_ok up (hsp.mem.holds t b q1)
        obtain ⟨s, rfl, z1⟩ := ownD s' g q1
        obtain ⟨t, rfl, z2⟩ := ownD t' g q2
        rw [hsp.mem.inj s t g z1 z2]
      have bl0 : ∀ {fa : Bool}, ∀ g, Bl fa θ0 m0.get g → Bl fa θ' mC.get g := fun g ⟨t, q⟩ => by
        obtain ⟨u, _, z⟩ := ownA t g q
        exact ⟨u, z⟩
      have spR : SP ρ nx (nx + k.nx1) θ' mC.get w θ3 mD.get w' := ⟨le3, fun t ht => by
        by_cases q : nx + k.nx0 ≤ t ∧ t < nx + k.nx1
        · exact .inr ⟨by omega, q.2⟩
        · left
          have : θ3 t = θ' t := if_neg q
          rw [← this]; exact ht, hmem, hsp.ext.mono fun g _ hg => bl0 g hg, fun g ⟨t', q⟩ => by
        obtain ⟨t, _, z⟩ := ownD t' g q
        rcases hsp.own g ⟨t, z⟩ with z | z
        · exact .inl (bl0 g z)
        · exact .inr z⟩
      have spW := SP.frame (tc := fun t => mC.get t ≠ none ∨ mD.get t ≠ none) (M' := mF.get) hA.mem (fun t b hb => ⟨.inl (by rw [hb]; simp), by rw [← (mCm t (by rw [hb]; simp)).2]; exact hb⟩) spR (fun t ht => by
        show mD.get t = none
        cases h : mD.get t with
        | none => rfl
        | some b => exact absurd (.inr (by rw [h]; simp)) ht) (fun t b hb => by
        rcases fF t b hb with h | ⟨h0, h1, h2⟩
        · exact .inl ⟨.inr (by rw [h]; simp), h⟩
        · refine .inr ⟨fun hq => ?_, h2⟩
          rcases hq with hq | hq
          · exact h1 (mCm t hq).1
          · exact hq h0)
      have hAW : At ρ n sF mF a' w' θ3 := ⟨hA2.defers, hA2.size, fun i v hv => by
        rw [hsF.2, lfS, lookS_ren (o := none) (o' := none) rfl, Option.map_eq_some_iff] at hv
        obtain ⟨v0, hv0, rfl⟩ := hv
        exact renV_den up (hA2.slot i v0 (by rw [hsX.2, lfS]; exact hv0)), spW.mem⟩
      exact cont a' w' θ3 hAW spW
  · exact Yl.no
end
abbrev TrigK := Tr SV → Mem → Nat → PC → Option (Rules × KLoop)
def goK (P : Program) (sm : SumT) (fuel : Nat) (body : Code) (trig : TrigK) : Nat → Tr SV → Mem → Nat → PC → KC → Bool
  | 0, _, _, _, _, _ => false
  | f + 1, s, m, nx, pc, K => match trig s m nx pc with
    | some (rs, k) => knH rs k s m nx pc fun s m pc => match k.ex with
      | none => goK P sm fuel body trig f s m (Nat.add nx k.nx1) pc K
      | some b => K (.exit b) s m (Nat.add nx k.nx1) pc
    | none => ev P sm fuel body s m nx pc fun e s m nx pc => match e with
      | .normal => goK P sm fuel body trig f s m nx pc K
      | e => K e s m nx pc
inductive CxK where
  | co (c : Code)
  | sq (a b : CxK)
  | lp (b : Nat) (body : Code) (trig : TrigK)
def CxK.code : CxK → Code
  | .co c => c
  | .sq a b => .seq a.code b.code
  | .lp b body _ => .block b (.loop body)
def evK (P : Program) (sm : SumT) (fuel many : Nat) : CxK → Tr SV → Mem → Nat → PC → KC → Bool
  | .co c, s, m, nx, pc, K => ev P sm fuel c s m nx pc K
  | .sq a b, s, m, nx, pc, K => evK P sm fuel many a s m nx pc fun e s m nx pc => match e with
    | .normal => evK P sm fuel many b s m nx pc K
    | e => K e s m nx pc
  | .lp b body trig, s, m, nx, pc, K => blkL b (goK P sm fuel body trig many s m nx pc) K
def mkXK : Code → List TrigK → CxK × List TrigK
  | .block b (.loop body), t :: l => (.lp b body t, l)
  | .seq c k, l => match mkXK c l with
    | (a, l) => match mkXK k l with
      | (b, l) => (.sq a b, l)
  | c, l => (.co c, l)
def lpsK : Code → List Code
  | .block _ (.loop body) => [body]
  | .seq c k => lpsK c ++ lpsK k
  | _ => []
def okXK (n : Nat) : CxK → Bool
  | .co c => dstOk n c
  | .sq a b => okXK n a && okXK n b
  | .lp _ body _ => dstOk n body
def KnOk (P : Program) (ρ : Rho) (body : Code) (trig : TrigK) : Prop := ∀ s m nx pc rs k, trig s m nx pc = some (rs, k) → RulesOk ρ rs ∧ LoopOk P ρ body k
def trXK (P : Program) (ρ : Rho) : CxK → Prop
  | .co _ => True
  | .sq a b => trXK P ρ a ∧ trXK P ρ b
  | .lp _ body trig => KnOk P ρ body trig
def callK (P : Program) (sm : SumT) (fuel many : Nat) (f : Nat) (x : CxK) (args : List SV) (m : Mem) (nx : Nat) (pc : PC) (K : SV → Mem → Nat → PC → Bool) : Bool := match P.funcs[f]? with
  | some fn => match !(fn.name == "runtime.NumGoroutine") && Nat.ble args.length fn.ntmps && okXK fn.ntmps x with
    | true => argC args 0 .lf fun s => evK P sm fuel many x s m nx pc fun e s m nx pc => match e with
      | .exit _ => false
      | _ => resC P s m fn.results.toList fun vs => K (retV vs) m nx pc
    | false => false
  | none => false
section
variable {P : Program} {ρ : Rho} {sm : SumT} {fuel n : Nat}
theorem goK_yl (hm : P.follows .mixedOrders = true) (hsm : SumOk P ρ sm) {body : Code} {trig : TrigK} (htr : KnOk P ρ body trig) (hd : dstOk n body = true) : ∀ (f : Nat) {s : Tr SV} {m : Mem} {nx : Nat} {pc : PC}, Sat ρ pc →
    Yl (fun K => goK P sm fuel body trig f s m nx pc fun e s m nx pc => K (e, ⟨s, m, nx, pc⟩)) (EvR P ρ n (.loop body) s m nx)
  | 0, s, m, nx, pc, _ => Yl.no
  | f + 1, s, m, nx, pc, hs => by
    unfold goK
    split
    · rename_i rs k hD
      obtain ⟨h1, h2⟩ := htr _ _ _ _ _ _ hD
      refine Yl.bind (α := Tr SV × Mem × PC) (β := AX × OS) (F := fun K => knH rs k s m nx pc fun s m pc => K (s, m, pc)) (G := fun o K => match k.ex with
        | none => goK P sm fuel body trig f o.1 o.2.1 (Nat.add nx k.nx1) o.2.2 fun e s m nx pc => K (e, ⟨s, m, nx, pc⟩)
        | some b => K (.exit b, ⟨o.1, o.2.1, Nat.add nx k.nx1, o.2.2⟩)) (knH_yl (n := n) h1 h2 hd hs) fun o ho => ?_
      obtain ⟨o1, o2, o3⟩ := ho
      cases hex : k.ex with
      | none =>
        refine (goK_yl hm hsm htr hd f o1).mono fun r hr2 => ?_
        have hle2 : nx + k.nx1 ≤ r.2.nx := hr2.le
        refine ⟨hr2.pc, by omega, fun t q1 q2 => ?_, fun a w θ hA hfr => o3 _ a w θ hA (fun t q1 q2 => hfr t q1 (by omega)) fun a' w' θ3 hA3 sp3 => ?_⟩
        · by_cases q : o.2.1.get t = none
          · have := hr2.new t q q2
            have q3 : nx + k.nx1 ≤ t := this.1
            exact ⟨by omega, this.2⟩
          · have := o2 t q1 q
            exact ⟨this.1, by omega⟩
        · rw [hex]
          refine (hr2.run a' w' θ3 hA3 fun t q1 q2 => ?_).mono fun e a2 w2 ⟨he, θ4, hA4, sp4⟩ => ⟨he, θ4, hA4, sp3.trans sp4 (by omega) hle2⟩
          have q1 : nx + k.nx1 ≤ t := q1
          cases hq : θ3 t with
          | none => rfl
          | some x =>
            rcases sp3.new t (by rw [hq]; simp) with z | z
            · exact absurd (hfr t (by omega) q2) z
            · omega
      | some b =>
        refine Yl.pure (α := AX × OS) _ ⟨o1, by show nx ≤ nx + k.nx1; omega, o2, fun a w θ hA hfr => o3 _ a w θ hA hfr fun a' w' θ3 hA3 sp3 => ?_⟩
        rw [hex]
        exact ⟨rfl, θ3, hA3, sp3⟩
    · refine Yl.bind (α := AX × OS) (β := AX × OS) (F := fun K => ev P sm fuel body s m nx pc fun e s m nx pc => K (e, ⟨s, m, nx, pc⟩)) (G := fun r K => match r.1 with
        | .normal => goK P sm fuel body trig f r.2.s r.2.m r.2.nx r.2.pc fun e s m nx pc => K (e, ⟨s, m, nx, pc⟩)
        | e => K (e, r.2)) (ev_yl hm hsm fuel n body s m nx pc hs hd) fun r hr => ?_
      obtain ⟨e, o⟩ := r
      cases e with
      | normal => exact (goK_yl hm hsm htr hd f hr.pc).mono fun r2 hr2 => hr.join hr2 fun a w Q h => loop_step h
      | exit i => exact Yl.pure (α := AX × OS) _ (hr.cut (by simp) fun a w Q Q' h h1 h2 => loop_step (wp_mono h (then_cut (by simp) h1 h2)))
      | ret => exact Yl.pure (α := AX × OS) _ (hr.cut (by simp) fun a w Q Q' h h1 h2 => loop_step (wp_mono h (then_cut (by simp) h1 h2)))
theorem evK_yl (hm : P.follows .mixedOrders = true) (hsm : SumOk P ρ sm) {many : Nat} : ∀ {x : CxK}, okXK n x = true → trXK P ρ x → ∀ {s : Tr SV} {m : Mem} {nx : Nat} {pc : PC}, Sat ρ pc →
    Yl (fun K => evK P sm fuel many x s m nx pc fun e s m nx pc => K (e, ⟨s, m, nx, pc⟩)) (EvR P ρ n x.code s m nx)
  | .co c, hd, _, s, m, nx, pc, hs => ev_yl hm hsm fuel n c s m nx pc hs hd
  | .sq a b, hd, ht, s, m, nx, pc, hs => by
    simp only [okXK, Bool.and_eq_true] at hd
    exact seq_yl (evK_yl hm hsm hd.1 ht.1 hs) fun s m nx pc hs => evK_yl hm hsm hd.2 ht.2 hs
  | .lp b body trig, hd, ht, s, m, nx, pc, hs => blkL_yl (goK_yl hm hsm ht hd many hs)
theorem callK_yl (hm : P.follows .mixedOrders = true) (hsm : SumOk P ρ sm) {many f : Nat} {x : CxK} {fn : Func} (hf : P.funcs[f]? = some fn) (hb : fn.body = some x.code)
    (htr : trXK P ρ x) {args : List SV} {m : Mem} {nx : Nat} {pc : PC} (hs : Sat ρ pc) : Yl (fun K => callK P sm fuel many f x args m nx pc fun v m nx pc => K ⟨v, m, nx, pc⟩) (CallR P ρ f args m nx) := by
  unfold callK
  rw [hf]
  simp only
  split
  · rename_i hok
    simp only [Bool.and_eq_true, Bool.not_eq_true', Nat.ble_eq] at hok
    obtain ⟨⟨k1, k2⟩, k3⟩ := hok
    refine Yl.bind argC_yl fun s0 hs0 => ?_
    refine Yl.bind (α := AX × OS) (β := O4) (F := fun K => evK P sm fuel many x s0 m nx pc fun e s m nx pc => K (e, ⟨s, m, nx, pc⟩)) (G := fun r K => match r.1 with
      | .exit _ => false
      | _ => resC P r.2.s r.2.m fn.results.toList fun vs => K ⟨retV vs, r.2.m, r.2.nx, r.2.pc⟩) (evK_yl hm hsm k3 htr hs) fun r hr => ?_
    have fin : Yl (fun K => resC P r.2.s r.2.m fn.results.toList fun vs => K (⟨retV vs, r.2.m, r.2.nx, r.2.pc⟩ : O4)) (fun q => ((r.1 = .normal ∨ r.1 = .ret) → CallR P ρ f args m nx q)) := by
      refine Yl.map (fun vs => (⟨retV vs, r.2.m, r.2.nx, r.2.pc⟩ : O4)) (resC_yl (ρ := ρ) (n := fn.ntmps)) fun vs hvs hre => ⟨enter_run hf k1 hb, hr.pc, hr.le, hr.new, fun w θ us hus hM hfr => ?_⟩
      have hlen := dens_len hus
      refine calls_of_wp hf hb (wp_mono (hr.run _ w θ ⟨rfl, ?_, fun k sv hk => ?_, hM⟩ hfr).wp fun e a w' ⟨he, θ', hA, hsp⟩ => ?_)
      · show (us.toArray ++ Array.replicate (fn.ntmps - us.toArray.size) undef).size = fn.ntmps
        simp [hlen]; omega
      · rcases hs0 k sv hk with ⟨_, h1⟩ | h1
        · rw [Nat.sub_zero] at h1
          obtain ⟨u, h2, h3⟩ := dens_get hus h1
          rw [h3]
          have hlt := (List.getElem?_eq_some_iff.1 h2).1
          show _ = some ((us.toArray ++ Array.replicate (fn.ntmps - us.toArray.size) undef).getD k undef)
          rw [Array.getD_eq_getD_getElem?, Array.getElem?_append_left (by simpa using hlt)]
          simp [h2]
        · simp [Tr.get] at h1
      · obtain ⟨us', h1, h2⟩ := hvs a w' θ' hA
        have post : a.defers = [] ∧ ∃ v, (results fn a.tmps).run P w' = .ok v w' ∧ ∃ v' θ'', Ending.returned v = .returned v' ∧ SP ρ nx r.2.nx θ m.get w θ'' r.2.m.get w' ∧ den ρ θ'' (retV vs) = some v' :=
          ⟨hA.defers, _, run_results h2, _, θ', rfl, hsp, retV_den h1⟩
        rcases hre with h | h <;> rw [h] at he <;> cases he <;> exact post
    split
    · exact Yl.no
    · rename_i h1
      refine fin.mono fun q hq => hq ?_
      cases hr1 : r.1 with
      | normal => exact .inl rfl
      | exit i => exact absurd hr1 (h1 i)
      | ret => exact .inr rfl
  · exact Yl.no
end
end X
end Go.Proofs.YtebfahobllghnaaGreatDoor
namespace Go.Proofs.YtebfahobllghnaaGreatDoor
namespace X
open Go.RowKit B
variable {fa : Bool}
set_option maxRecDepth 1000000
def sMg : SumF := fun args m nx pc K => match args with
  | [.tp s _, .tp t _] => match m.get s, m.get t with
    | some (.hb _ la qa), some (.hb _ lb qb) => cutT rN kMg ⟨[(20, la), (21, qa), (24, lb), (25, qb)], []⟩ args m nx pc K
    | _, _ => false
  | _ => false
def sFr : SumF := fun args m nx pc K => match args with
  | [_, .s [.a 22]] => cutT rN kFr ⟨[(20, [.a 22]), (21, [.a 23])], []⟩ args m nx pc K
  | [_, .s [.a 40]] => cutT rN kFr ⟨[(20, [.a 40]), (21, [.a 42])], []⟩ args m nx pc K
  | _ => false
section
variable {ρ : Rho}
theorem sMg_ok : CallY Tryz.prog ρ 183 sMg := CallY.of fun args m nx pc hs => by
  unfold sMg
  split
  · split
    · exact ⟨_, cutT_ok (kMg_ok _ _ (Nat.lt_succ_self _)), fun K => rfl⟩
    · exact ⟨_, CallY.no, fun K => rfl⟩
  · exact ⟨_, CallY.no, fun K => rfl⟩
theorem sFr_ok (h1 : ρ.s 23 = [UInt8.ofNat (ρ.s 22).length]) (h2 : ρ.s 42 = [UInt8.ofNat (ρ.s 40).length]) : CallY Tryz.prog ρ 186 sFr := CallY.of fun args m nx pc hs => by
  unfold sFr
  split
  · refine ⟨_, cutT_ok (kFr_ok ?_), fun K => rfl⟩
    show denS ρ [.a 23] = [UInt8.ofNat (denS ρ [.a 22]).length]
    rw [denA, denA, h1]
  · refine ⟨_, cutT_ok (kFr_ok ?_), fun K => rfl⟩
    show denS ρ [.a 42] = [UInt8.ofNat (denS ρ [.a 40]).length]
    rw [denA, denA, h2]
  · exact ⟨_, CallY.no, fun K => rfl⟩
end
def smCh : SumT := withF 186 sFr (withF 183 sMg smZ)
def sl3 (t : Nat) (la M lb : Str) : SL := [(0, .p 0 0), (1, tv t la), (2, .s M), (3, tv 2 lb)]
def ml3 (t : Nat) (la qa lb qb : Str) : ML := [(0, hD), (t, hT 241 la qa), (2, hT 241 lb qb)]
noncomputable def chB : Code := match lpsK (bodyOf Tryz.f121.body) with
  | [c] => c
  | _ => .skip
def chT1 : TS := ⟨sl3 50 [.a 20, .a 22] [] [.a 24], ml3 50 [.a 20, .a 22] [.a 21, .a 23] [.a 24] [.a 25], [], 51⟩
def chT2 : TS := ⟨sl3 50 [.a 20, .a 40] [.a 41] [.a 24], ml3 50 [.a 20, .a 40] [.a 21, .a 42] [.a 24] [.a 25], [], 51⟩
def chP1 : PC := capP [.a 22] ++ capE [.a 20, .a 22]
def chP2 : PC := eqLn (lenS [.a 40]) (.mk 64 []) ++ (le1 [.a 41] :: capE [.a 20, .a 40, .a 41])
theorem ch_1 : evTo smCh chB (sl3 1 [.a 20] [.a 22] [.a 24]) (ml3 1 [.a 20] [.a 21] [.a 24] [.a 25]) 3 2000 chP1 .normal rN chT1 = true := by kernel_rfl
theorem ch_2 : evTo smCh chB (sl3 1 [.a 20] [.a 40, .a 41] [.a 24]) (ml3 1 [.a 20] [.a 21] [.a 24] [.a 25]) 3 2000 chP2 .normal rN chT2 = true := by kernel_rfl
structure St3 (n : Nat) (a : Act) (w : World) (x0 x1 x2 : Nat × Nat) (la qa M lb qb : List UInt8) : Prop where
  defers : a.defers = []
  size : a.tmps.size = n
  s0 : get a 0 = .pointer (some ⟨x0.1, 0, none⟩)
  s1 : get a 1 = .pointer (if (la.length : Int) ≤ 0 then none else some ⟨x1.1, 0, none⟩)
  s2 : get a 2 = .string (bstr M)
  s3 : get a 3 = .pointer (if (lb.length : Int) ≤ 0 then none else some ⟨x2.1, 0, none⟩)
  h0 : Hid [2, 87, 52] w x0 [] []
  h1 : Hid [0, 241] w x1 la qa
  h2 : Hid [0, 241] w x2 lb qb
  d01 : ∀ g, g ∈ lsD x0.2 → g ∉ lsD x1.2
  d02 : ∀ g, g ∈ lsD x0.2 → g ∉ lsD x2.2
  d12 : ∀ g, g ∈ lsD x1.2 → g ∉ lsD x2.2
def F3 (x0 x1 x2 : Nat × Nat) (g : Nat) : Prop := g ∈ lsD x0.2 ∨ g ∈ lsD x1.2 ∨ g ∈ lsD x2.2
section
variable {ρ : Rho} {n t : Nat} {a : Act} {w : World} {θ : Th} {la qa M lb qb : Str} {x0 x1 x2 : Nat × Nat}
theorem getM3 (ht : t = 1 ∨ t = 50) (s : Nat) : (mkU (ml3 t la qa lb qb) .lf).get s = if s = 2 then some (hT 241 lb qb) else if s = t then some (hT 241 la qa) else if s = 0 then some hD else none := by
  rcases ht with rfl | rfl
  · exact getL (l := ml3 1 la qa lb qb) rfl s
  · exact getL (l := ml3 50 la qa lb qb) rfl s
theorem getS3 (s : Nat) : (mkUV (sl3 t la M lb) .lf).get s = if s = 3 then some (tv 2 lb) else if s = 2 then some (.s M) else if s = 1 then some (tv t la) else if s = 0 then some (.p 0 0) else none := by
  rw [(mkV_get (l := sl3 t la M lb) (m := .lf) (K := fun _ => true) rfl).2]
  simp only [sl3, lookS, show Tr.get (α := SV) .lf s = none by simp [Tr.get]]
theorem own3 (ht : t = 1 ∨ t = 50) (e0 : θ 0 = some x0) (e1 : θ t = some x1) (e2 : θ 2 = some x2) (s g : Nat) : Own fa θ (mkU (ml3 t la qa lb qb) .lf).get s g ↔ (s = 0 ∧ g ∈ lsD x0.2) ∨ (s = t ∧ g ∈ lsD x1.2) ∨ (s = 2 ∧ g ∈ lsD x2.2) := by
  have ht0 : t ≠ 0 ∧ t ≠ 2 := by omega
  constructor
  · rintro ⟨y, y1, y2⟩
    rw [getM3 ht] at y2
    split at y2
    · rename_i e; subst e; rw [e2] at y1; cases y1; exact .inr (.inr ⟨rfl, y2⟩)
    · split at y2
      · rename_i e; subst e; rw [e1] at y1; cases y1; exact .inr (.inl ⟨rfl, y2⟩)
      · split at y2
        · rename_i e; subst e; rw [e0] at y1; cases y1; exact .inl ⟨rfl, y2⟩
        · exact y2.elim
  · rintro (⟨rfl, h⟩ | ⟨rfl, h⟩ | ⟨rfl, h⟩)
    · exact ⟨x0, e0, by rw [getM3 ht, if_neg (by decide), if_neg (fun e => ht0.1 e.symm), if_pos rfl]; exact h⟩
    · exact ⟨x1, e1, by rw [getM3 ht, if_neg ht0.2, if_pos rfl]; exact h⟩
    · exact ⟨x2, e2, by rw [getM3 ht, if_pos rfl]; exact h⟩
theorem bl3 (ht : t = 1 ∨ t = 50) (e0 : θ 0 = some x0) (e1 : θ t = some x1) (e2 : θ 2 = some x2) (g : Nat) : Bl fa θ (mkU (ml3 t la qa lb qb) .lf).get g ↔ F3 x0 x1 x2 g := by
  constructor
  · rintro ⟨s, h⟩
    rcases (own3 ht e0 e1 e2 s g).1 h with ⟨_, h⟩ | ⟨_, h⟩ | ⟨_, h⟩
    · exact .inl h
    · exact .inr (.inl h)
    · exact .inr (.inr h)
  · rintro (h | h | h)
    · exact ⟨0, (own3 ht e0 e1 e2 0 g).2 (.inl ⟨rfl, h⟩)⟩
    · exact ⟨t, (own3 ht e0 e1 e2 t g).2 (.inr (.inl ⟨rfl, h⟩))⟩
    · exact ⟨2, (own3 ht e0 e1 e2 2 g).2 (.inr (.inr ⟨rfl, h⟩))⟩
theorem at3 (ht : t = 1 ∨ t = 50) (h : At ρ n (mkUV (sl3 t la M lb) .lf) (mkU (ml3 t la qa lb qb) .lf) a w θ) : ∃ x0 x1 x2, θ 0 = some x0 ∧ θ t = some x1 ∧ θ 2 = some x2 ∧ St3 n a w x0 x1 x2 (denS ρ la) (denS ρ qa) (denS ρ M) (denS ρ lb) (denS ρ qb) := by
  have ht0 : t ≠ 0 ∧ t ≠ 2 := by omega
  obtain ⟨x0, e0, h0⟩ := h.mem.holds 0 hD (by rw [getM3 ht, if_neg (by decide), if_neg (fun e => ht0.1 e.symm), if_pos rfl])
  obtain ⟨x1, e1, h1⟩ := h.mem.holds t (hT 241 la qa) (by rw [getM3 ht, if_neg ht0.2, if_pos rfl])
  obtain ⟨x2, e2, h2⟩ := h.mem.holds 2 (hT 241 lb qb) (by rw [getM3 ht, if_pos rfl])
  have z0 := h.slot 0 (.p 0 0) (by rw [getS3]; rfl)
  have z1 := h.slot 1 (tv t la) (by rw [getS3]; rfl)
  have z2 := h.slot 2 (.s M) (by rw [getS3]; rfl)
  have z3 := h.slot 3 (tv 2 lb) (by rw [getS3]; rfl)
  simp only [den, tv, e0, e1, e2, Option.map_some, lenS_den, Option.some.injEq] at z0 z1 z2 z3
  exact ⟨x0, x1, x2, e0, e1, e2, h.defers, h.size, z0.symm, z1.symm, z2.symm, z3.symm, h0, h1, h2,
    fun g q1 q2 => ht0.1 (h.mem.inj 0 t g ((own3 ht e0 e1 e2 0 g).2 (.inl ⟨rfl, q1⟩)) ((own3 ht e0 e1 e2 t g).2 (.inr (.inl ⟨rfl, q2⟩)))).symm,
    fun g q1 q2 => absurd (h.mem.inj 0 2 g ((own3 ht e0 e1 e2 0 g).2 (.inl ⟨rfl, q1⟩)) ((own3 ht e0 e1 e2 2 g).2 (.inr (.inr ⟨rfl, q2⟩)))) (by decide),
    fun g q1 q2 => ht0.2 (h.mem.inj t 2 g ((own3 ht e0 e1 e2 t g).2 (.inr (.inl ⟨rfl, q1⟩))) ((own3 ht e0 e1 e2 2 g).2 (.inr (.inr ⟨rfl, q2⟩))))⟩
theorem to3 (ht : t = 1 ∨ t = 50) (e0 : θ 0 = some x0) (e1 : θ t = some x1) (e2 : θ 2 = some x2) (h : St3 n a w x0 x1 x2 (denS ρ la) (denS ρ qa) (denS ρ M) (denS ρ lb) (denS ρ qb)) : At ρ n (mkUV (sl3 t la M lb) .lf) (mkU (ml3 t la qa lb qb) .lf) a w θ := by
  have ht0 : t ≠ 0 ∧ t ≠ 2 := by omega
  refine ⟨h.defers, h.size, fun k sv hk => ?_, fun s b hb => ?_, fun s u g q1 q2 => ?_⟩
  · rw [getS3] at hk
    split at hk
    · rename_i e; subst e; cases hk; simp only [den, tv, e2, Option.map_some, lenS_den, h.s3]
    · split at hk
      · rename_i e; subst e; cases hk; simp only [den, h.s2]
      · split at hk
        · rename_i e; subst e; cases hk; simp only [den, tv, e1, Option.map_some, lenS_den, h.s1]
        · split at hk
          · rename_i e; subst e; cases hk; simp only [den, e0, Option.map_some, h.s0]
          · cases hk
  · rw [getM3 ht] at hb
    split at hb
    · rename_i e; subst e; cases hb; exact ⟨x2, e2, h.h2⟩
    · split at hb
      · rename_i e; subst e; cases hb; exact ⟨x1, e1, h.h1⟩
      · split at hb
        · rename_i e; subst e; cases hb; exact ⟨x0, e0, h.h0⟩
        · cases hb
  · rcases (own3 ht e0 e1 e2 s g).1 q1 with ⟨rfl, y1⟩ | ⟨rfl, y1⟩ | ⟨rfl, y1⟩ <;> rcases (own3 ht e0 e1 e2 u g).1 q2 with ⟨rfl, y2⟩ | ⟨rfl, y2⟩ | ⟨rfl, y2⟩ <;> first
      | rfl
      | exact absurd y2 (h.d01 g y1)
      | exact absurd y1 (h.d01 g y2)
      | exact absurd y2 (h.d02 g y1)
      | exact absurd y1 (h.d02 g y2)
      | exact absurd y2 (h.d12 g y1)
      | exact absurd y1 (h.d12 g y2)
end
def WR (F F' : Nat → Prop) (w w' : World) : Prop := Ext F w w' ∧ ∀ g, F' g → F g ∨ w.heap.size ≤ g
theorem WR.trans {F F' F2 : Nat → Prop} {w w' w2 : World} (h : WR F F' w w') (k : WR F' F2 w' w2) : WR F F2 w w2 := by
  refine ⟨⟨k.1.os.trans h.1.os, k.1.tape.trans h.1.tape, k.1.output.trans h.1.output, Nat.le_trans h.1.size k.1.size, fun i hi hn => ?_⟩, fun g hg => ?_⟩
  · rw [k.1.block i (Nat.lt_of_lt_of_le hi h.1.size) fun hb => ?_, h.1.block i hi hn]
    rcases h.2 i hb with a | a
    · exact hn a
    · omega
  · rcases k.2 g hg with a | a
    · exact h.2 g a
    · exact .inr (Nat.le_trans h.1.size a)
inductive ChunkOk : Nat → List UInt8 → Prop where
  | one {n : Nat} : 1 ≤ n → n ≤ 64 → ChunkOk n [UInt8.ofNat n]
  | more {n : Nat} {l : List UInt8} : 64 < n → ChunkOk (n - 64) l → ChunkOk n (64 :: l)
theorem chunk_ex : ∀ (m n : Nat), n ≤ m → 1 ≤ n → ∃ l, ChunkOk n l
  | 0, n, h1, h2 => by omega
  | m + 1, n, h1, h2 => by
    by_cases h : n ≤ 64
    · exact ⟨_, .one h2 h⟩
    · obtain ⟨l, hl⟩ := chunk_ex m (n - 64) (by omega) (by omega)
      exact ⟨_, .more (by omega) hl⟩
theorem thR (x0 x1 x2 : Nat × Nat) : ∃ θ : Th, θ 0 = some x0 ∧ θ 1 = some x1 ∧ θ 2 = some x2 ∧ ∀ t, 3 ≤ t → θ t = none :=
  ⟨fun t => if t = 0 then some x0 else if t = 1 then some x1 else if t = 2 then some x2 else none, rfl, rfl, rfl, fun t ht => by
    show (if t = 0 then _ else _) = _
    rw [if_neg (by omega), if_neg (by omega), if_neg (by omega)]⟩
theorem ch_round {n : Nat} (hd : dstOk n chB = true) {Q : Exit → Act → World → Prop} {a : Act} {w : World} {x0 x1 x2 : Nat × Nat} {la qa c r lb qb : List UInt8} (hc : (1 ≤ c.length ∧ c.length ≤ 64 ∧ r = []) ∨ (c.length = 64 ∧ 1 ≤ r.length)) (hl : la.length + (c ++ r).length ≤ 1000) (h : St3 n a w x0 x1 x2 la qa (c ++ r) lb qb)
    (K : ∀ a' w' x1', St3 n a' w' x0 x1' x2 (la ++ c) (qa ++ [UInt8.ofNat c.length]) r lb qb → WR (F3 x0 x1 x2) (F3 x0 x1' x2) w w' → LoopWp Tryz.prog chB Q a' w') : LoopWp Tryz.prog chB Q a w := by
  obtain ⟨θ, e0, e1, e2, hf⟩ := thR x0 x1 x2
  let ρ : Rho := ⟨fun _ => 0, fun i => if i = 20 then la else if i = 21 then qa else if i = 22 then c else if i = 23 then [UInt8.ofNat c.length] else if i = 24 then lb else if i = 25 then qb else if i = 40 then c else if i = 41 then r else if i = 42 then [UInt8.ofNat c.length] else []⟩
  have hsm : SumOk Tryz.prog ρ smCh := withF_ok (withF_ok (smZ_ok ρ) sMg_ok) (sFr_ok rfl rfl)
  have fin : ∀ {t : Nat} {la' qa' M' lb' qb' : Str} {a' : Act} {w' : World} {θ2 : Th} {m' : Mem}, t = 50 → denS ρ la' = la ++ c → denS ρ qa' = qa ++ [UInt8.ofNat c.length] → denS ρ M' = r → denS ρ lb' = lb → denS ρ qb' = qb → At ρ n (mkUV (sl3 t la' M' lb') .lf) (mkU (ml3 t la' qa' lb' qb') .lf) a' w' θ2 →
      SP ρ 3 51 θ (mkU (ml3 1 [.a 20] [.a 21] [.a 24] [.a 25]) .lf).get w θ2 (mkU (ml3 t la' qa' lb' qb') .lf).get w' → LoopWp Tryz.prog chB Q a' w' := fun {t la' qa' M' lb' qb' a' w' θ2 m'} ht h1 h2 h3 h4 h5 hA hsp => by
    obtain ⟨y0, y1, y2, f0, f1, f2, hS⟩ := at3 (.inr ht) hA
    have z0 := hsp.le 0 _ e0
    have z2 := hsp.le 2 _ e2
    rw [f0] at z0; cases z0
    rw [f2] at z2; cases z2
    rw [h1, h2, h3, h4, h5] at hS
    exact K a' w' y1 hS ⟨hsp.ext.mono fun g _ q => (bl3 (.inl rfl) e0 e1 e2 g).1 q, fun g hg => by
      rcases hsp.own g ((bl3 (fa := false) (.inr ht) f0 f1 f2 g).2 hg) with q | q
      · exact .inl ((bl3 (fa := false) (.inl rfl) e0 e1 e2 g).1 q)
      · exact .inr q⟩
  have d20 : denS ρ [.a 20] = la := denA 20
  have d21 : denS ρ [.a 21] = qa := denA 21
  have d24 : denS ρ [.a 24] = lb := denA 24
  have d25 : denS ρ [.a 25] = qb := denA 25
  rcases hc with ⟨h1, h2, rfl⟩ | ⟨h1, h2⟩
  · have hA : At ρ n (mkUV (sl3 1 [.a 20] [.a 22] [.a 24]) .lf) (mkU (ml3 1 [.a 20] [.a 21] [.a 24] [.a 25]) .lf) a w θ := to3 (.inl rfl) e0 e1 e2 (by
      rw [d20, d21, d24, d25, show denS ρ [.a 22] = c from denA 22]
      rw [List.append_nil] at h
      exact h)
    refine loop_step (wp_mono (ev_to ch_1 hsm rN_okA (sat_app (sat_cons ?_ (sat_cons ?_ sat_nil)) (sat_cons ?_ sat_nil)) hd hA (fun t q1 _ => hf t q1)).wp fun e a' w' ⟨he, _, θ2, hA2, hsp⟩ => ?_)
    · rw [le1, sub_den, const_den, lenA]; show 0 ≤ (c.length : Int) - 1; omega
    · rw [ge64, sub_den, const_den, lenA]; show 0 ≤ (64 : Int) - c.length; omega
    · rw [sub_den, const_den, lenS_den]
      show 0 ≤ (1000 : Int) - ((la ++ (c ++ []) : List UInt8).length : Nat)
      rw [List.append_nil] at hl ⊢
      rw [List.length_append]
      omega
    · have he : e = .normal := he
      subst he
      exact fin (m' := .lf) rfl (by show la ++ (c ++ []) = _; rw [List.append_nil]) (by show qa ++ ([UInt8.ofNat c.length] ++ []) = _; rfl) rfl d24 d25 hA2 hsp
  · have hA : At ρ n (mkUV (sl3 1 [.a 20] [.a 40, .a 41] [.a 24]) .lf) (mkU (ml3 1 [.a 20] [.a 21] [.a 24] [.a 25]) .lf) a w θ := to3 (.inl rfl) e0 e1 e2 (by
      rw [d20, d21, d24, d25, show denS ρ [.a 40, .a 41] = c ++ r by show c ++ (r ++ []) = _; rw [List.append_nil]]
      exact h)
    refine loop_step (wp_mono (ev_to ch_2 hsm rN_okA (sat_app (sat_cons ?_ (sat_cons ?_ sat_nil)) (sat_cons ?_ (sat_cons ?_ sat_nil))) hd hA (fun t q1 _ => hf t q1)).wp fun e a' w' ⟨he, _, θ2, hA2, hsp⟩ => ?_)
    · rw [sub_den, const_den, lenA]; show 0 ≤ (c.length : Int) - 64; omega
    · rw [sub_den, const_den, lenA]; show 0 ≤ (64 : Int) - c.length; omega
    · rw [le1, sub_den, const_den, lenA]; show 0 ≤ (r.length : Int) - 1; omega
    · rw [sub_den, const_den, lenS_den]
      show 0 ≤ (1000 : Int) - ((la ++ (c ++ (r ++ [])) : List UInt8).length : Nat)
      rw [List.append_nil]
      rw [List.length_append]
      omega
    · have he : e = .normal := he
      subst he
      exact fin (m' := .lf) rfl (by show la ++ (c ++ []) = _; rw [List.append_nil]) (by show qa ++ ([UInt8.ofNat c.length] ++ []) = _; rfl) (by show r ++ [] = _; rw [List.append_nil]) d24 d25 hA2 hsp
theorem ch_loop {n : Nat} (hd : dstOk n chB = true) {x0 x2 : Nat × Nat} {lb qb : List UInt8} {Q : Exit → Act → World → Prop} : ∀ {m : Nat} {q : List UInt8}, ChunkOk m q → ∀ {M la qa : List UInt8} {a : Act} {w : World} {x1 : Nat × Nat}, M.length = m → la.length + M.length ≤ 1000 → St3 n a w x0 x1 x2 la qa M lb qb →
    (∀ a' w' x1', St3 n a' w' x0 x1' x2 (la ++ M) (qa ++ q) [] lb qb → WR (F3 x0 x1 x2) (F3 x0 x1' x2) w w' → LoopWp Tryz.prog chB Q a' w') → LoopWp Tryz.prog chB Q a w := by
  intro m q hq
  induction hq with
  | @one n' h1 h2 =>
    intro M la qa a w x1 hm hl h K
    refine ch_round hd (c := M) (r := []) (.inl ⟨by omega, by omega, rfl⟩) (by rw [List.append_nil]; exact hl) (by rw [List.append_nil]; exact h) fun a' w' x1' hS hW => K a' w' x1' ?_ hW
    rw [hm] at hS
    exact hS
  | @more n' l h1 h2 ih =>
    intro M la qa a w x1 hm hl h K
    have e : M.take 64 ++ M.drop 64 = M := List.take_append_drop _ _
    have l1 : (M.take 64).length = 64 := by rw [List.length_take]; omega
    refine ch_round hd (c := M.take 64) (r := M.drop 64) (.inr ⟨l1, by rw [List.length_drop]; omega⟩) (by rw [e]; exact hl) (by rw [e]; exact h) fun a' w' x1' hS hW => ?_
    refine ih (M := M.drop 64) (by rw [List.length_drop]; omega) (by rw [List.length_append, List.length_drop, l1]; omega) hS fun a2 w2 x2' hS2 hW2 => K a2 w2 x2' ?_ (hW.trans hW2)
    rw [List.append_assoc, e, List.append_assoc, l1] at hS2
    exact hS2
def kChS (la qa M q lb qb : Str) : KLoop := ⟨sl3 1 la M lb, ml3 1 la qa lb qb, 3, le1 M :: capE (appL la M), sl3 50 (appL la M) [] lb, ml3 50 (appL la M) (appL qa q) lb qb, 51, [], none⟩
theorem kChS_ok {ρ : Rho} {la qa M q lb qb : Str} (hq : 1 ≤ (denS ρ M).length → ChunkOk (denS ρ M).length (denS ρ q)) : LoopOk Tryz.prog ρ chB (kChS la qa M q lb qb) := fun hs => by
  have hm : 1 ≤ (denS ρ M).length := by
    have := hs _ List.mem_cons_self
    rw [le1, sub_den, const_den, lenS_den] at this
    omega
  have hcap : (denS ρ la).length + (denS ρ M).length ≤ 1000 := by
    have := hs _ (List.mem_cons_of_mem _ List.mem_cons_self)
    rw [sub_den, const_den, lenS_den, appL_app, denS_app, List.length_append] at this
    omega
  refine ⟨sat_nil, by show 3 ≤ 51; omega, fun t q1 q2 => ?_, fun n Q a w θ hd hA hfr K => ?_⟩
  · have q1 : (mkU (ml3 1 la qa lb qb) .lf).get t = none := q1
    have q2 : (mkU (ml3 50 (appL la M) (appL qa q) lb qb) .lf).get t ≠ none := q2
    rw [getM3 (.inl rfl)] at q1
    rw [getM3 (.inr rfl)] at q2
    show 3 ≤ t ∧ t < 51
    split at q2
    · rename_i e; rw [if_pos e] at q1; cases q1
    · split at q2
      · omega
      · split at q2
        · rename_i e1 _ e; subst e; simp at q1
        · exact absurd rfl q2
  · have hA : At ρ n (mkUV (sl3 1 la M lb) .lf) (mkU (ml3 1 la qa lb qb) .lf) a w θ := hA
    have hfr : ∀ t, 3 ≤ t → t < 51 → θ t = none := hfr
    obtain ⟨x0, x1, x2, e0, e1, e2, hS⟩ := at3 (.inl rfl) hA
    refine ch_loop hd (hq hm) rfl hcap hS fun a' w' x1' hS' hW => ?_
    let θ1 : Th := fun t => if t = 50 then some x1' else θ t
    have f0 : θ1 0 = some x0 := e0
    have f1 : θ1 50 = some x1' := rfl
    have f2 : θ1 2 = some x2 := e2
    have hA' : At ρ n (mkUV (sl3 50 (appL la M) [] lb) .lf) (mkU (ml3 50 (appL la M) (appL qa q) lb qb) .lf) a' w' θ1 := to3 (.inr rfl) f0 f1 f2 (by
      rw [appL_app, appL_app, denS_app, denS_app]
      exact hS')
    refine K a' w' θ1 hA' ⟨fun t x hx => ?_, fun t ht => ?_, hA'.mem, hW.1.mono fun g _ q => (bl3 (.inl rfl) e0 e1 e2 g).2 q, fun g hg => ?_⟩
    · show (if t = 50 then _ else θ t) = some x
      rw [if_neg fun e => by subst e; rw [hfr 50 (by decide) (by decide)] at hx; cases hx]
      exact hx
    · by_cases e : t = 50
      · subst e; exact .inr ⟨show 3 ≤ 50 by omega, show 50 < 51 by omega⟩
      · left
        have : θ1 t = θ t := if_neg e
        rw [← this]; exact ht
    · rcases hW.2 g ((bl3 (.inr rfl) f0 f1 f2 g).1 hg) with q | q
      · exact .inl ((bl3 (.inl rfl) e0 e1 e2 g).2 q)
      · exact .inr q
end X
end Go.Proofs.YtebfahobllghnaaGreatDoor
namespace Go.Proofs.YtebfahobllghnaaGreatDoor
namespace X
open Go.RowKit B
set_option maxRecDepth 1000000
def pieC (i : Nat) : List SV := [xs [.a i], xs (ctr 0 [.a i]), xs (ctr 1 [.a i]), xs (ctr 2 [.a i]), .s [.a i]]
def kCuL : Known := ⟨kCu.a0, kCu.l0, 1, kCu.pc0, .tu [tv 50 [.a 30], .p 52 0], [(50, hT 241 [.a 30] [.a 31]), (52, .ce 241 (pieC 32) false)], 53, []⟩
def kCuF : Known := ⟨kCu.a0, kCu.l0, 1, kCu.pc0, .tu [.p 52 0, tv 51 [.a 32]], [(52, .ce 241 (pieC 30) false), (51, hT 241 [.a 32] [.a 33])], 53, []⟩
section
variable {ρ : Rho}
theorem getCu (t : Nat) : (mkU kCu.l1 .lf).get t = if t = 51 then some (hT 241 [.a 32] [.a 33]) else if t = 50 then some (hT 241 [.a 30] [.a 31]) else none := getL (l := kCu.l1) rfl t
theorem getCuL (t : Nat) : (mkU kCuL.l1 .lf).get t = if t = 52 then some (.ce 241 (pieC 32) false) else if t = 50 then some (hT 241 [.a 30] [.a 31]) else none := getL (l := kCuL.l1) rfl t
theorem getCuF (t : Nat) : (mkU kCuF.l1 .lf).get t = if t = 51 then some (hT 241 [.a 32] [.a 33]) else if t = 52 then some (.ce 241 (pieC 30) false) else none := getL (l := kCuF.l1) rfl t
theorem lens_nil {d : PTr} (h : d.lens = []) : d = .lf := by
  cases d with
  | lf => rfl
  | nd _ _ _ _ _ => simp [PTr.lens] at h
theorem hid_one {w : World} {x : Nat × Nat} {L : List UInt8} {c : UInt8} (h : Hid [0, 241] w x L [c]) : ∃ arr p, w.heap[x.1]? = some (.cells arr 241 (0, 0)) ∧ arr.toList = nodeV [] L [] p ++ [.pointer none, .pointer none] ∧ x.1 ∈ lsD x.2 := by
  obtain ⟨d, h1, h2, h3, h4, h5, h6⟩ := h
  cases d with
  | lf => simp [PTr.lens] at h5
  | nd g o p l r =>
    have h6 : x.1 = g := h6
    obtain ⟨⟨arr, e1, e2⟩, _, _, _, _⟩ := h3
    simp only [PTr.lens] at h5
    have hl : l.lens = [] ∧ r.lens = [] := by
      cases hq : l.lens with
      | nil => rw [hq] at h5; simp only [List.nil_append, List.cons.injEq] at h5; exact ⟨rfl, h5.2⟩
      | cons a q => rw [hq] at h5; simp at h5
    have l0 := lens_nil hl.1
    have r0 := lens_nil hl.2
    subst l0; subst r0
    have ho : o = L := by simpa [PTr.text] using h4
    subst ho
    exact ⟨arr, p, by rw [h6]; exact e1, e2, by rw [h1, h6]; simp [PTr.blocks]⟩
theorem pie_ok {w : World} {θ : Th} {i t : Nat} {g : Nat} {p : Int} {arr : Array Value} (ht : ∀ k, k < 3 → ρ.s (200 + 3 * i + k) = ctrF k (ρ.s i)) (h1 : θ t = some (g, 12)) (h2 : w.heap[g]? = some (.cells arr 241 (0, 0))) (h3 : arr.toList = nodeV [] (ρ.s i) [] p ++ [.pointer none, .pointer none]) : HoldsB ρ θ w t (.ce 241 (pieC i) false) := by
  have hc : ∀ k, k < 3 → denS ρ (ctr k [.a i]) = ctrF k (ρ.s i) := fun k hk => (denA _).trans (ht k hk)
  have z : ∀ n, (zer n).length = n := fun n => zer_len
  have e : dens ρ θ (pieC i) = some [.int .i64 (ρ.s i).length, .int .i64 (tB (ρ.s i)), .int .i64 (tR (ρ.s i)), .int .i64 (tU (ρ.s i)), .string (bstr (ρ.s i))] := by
    simp only [pieC, dens, xs_den, hc 0 (by decide), hc 1 (by decide), hc 2 (by decide), denA, den, ctrF, z, Option.bind_some, Option.map_some, tB_cnt, tR_cnt, tU_cnt]
  have hsz : arr.size = 12 := by
    have := congrArg List.length h3
    simpa [nodeV] using this
  refine ⟨g, 12, _, arr, [.int .i64 (ρ.s i).length, .int .i64 (tB (ρ.s i)), .int .i64 (tR (ρ.s i)), .int .i64 (tU (ρ.s i)), .int .u32 p, .pointer none, .pointer none], h1, h2, hsz, e, fun v hv => ?_, ?_, fun h => by cases h⟩
  · simp only [List.mem_cons, List.not_mem_nil, or_false] at hv
    rcases hv with rfl | rfl | rfl | rfl | rfl <;> rfl
  · rw [h3]
    simp [nodeV]
theorem kCuL_ok {f : Nat} (hk : KnownOk Tryz.prog f kCu ρ) (h1 : ∃ c, ρ.s 33 = [c]) (ht : ∀ k, k < 3 → ρ.s (200 + 3 * 32 + k) = ctrF k (ρ.s 32)) : KnownOk Tryz.prog f kCuL ρ := fun hs => by
  obtain ⟨c, hc⟩ := h1
  refine CallR.post (r' := O4.of kCu) (hk hs) (fun θ2 w' v _ hM hfr hv => ?_) sat_nil (by decide) (fun t _ q => ?_)
  · have hM : MemOk ρ θ2 (mkU kCu.l1 .lf).get w' := hM
    have f52 : θ2 52 = none := hfr 52 (by decide) (by decide)
    obtain ⟨x0, e0, hh0⟩ := hM.holds 50 _ (getCu 50)
    obtain ⟨x1, e1, hh1⟩ := hM.holds 51 _ (getCu 51)
    have hh1 : Hid [0, 241] w' x1 (denS ρ [.a 32]) (denS ρ [.a 33]) := hh1
    rw [denA, denA, hc] at hh1
    obtain ⟨arr, p, a1, a2, a3⟩ := hid_one hh1
    let θ3 : Th := fun t => if t = 52 then some (x1.1, 12) else θ2 t
    have g52 : θ3 52 = some (x1.1, 12) := rfl
    have g50 : θ3 50 = some x0 := e0
    have o50 : ∀ {fa : Bool}, ∀ g, g ∈ lsD x0.2 → Own fa θ2 (mkU kCu.l1 .lf).get 50 g := fun g hg => ⟨x0, e0, by rw [getCu]; exact hg⟩
    have o51 : ∀ {fa : Bool}, ∀ g, g ∈ lsD x1.2 → Own fa θ2 (mkU kCu.l1 .lf).get 51 g := fun g hg => ⟨x1, e1, by rw [getCu]; exact hg⟩
    have own : ∀ {fa : Bool}, ∀ s g, Own fa θ3 (mkU kCuL.l1 .lf).get s g → (s = 52 ∧ g = x1.1) ∨ (s = 50 ∧ g ∈ lsD x0.2) := fun s g ⟨y, y1, y2⟩ => by
      rw [getCuL] at y2
      split at y2
      · rename_i e; subst e; rw [g52] at y1; cases y1; exact .inl ⟨rfl, y2⟩
      · split at y2
        · rename_i e; subst e; rw [g50] at y1; cases y1; exact .inr ⟨rfl, y2⟩
        · exact y2.elim
    refine ⟨θ3, fun t x hx => ?_, fun t hq => ?_, ⟨fun t b hb => ?_, fun s t g q1 q2 => ?_⟩, fun g ⟨s, o⟩ => ?_, ?_⟩
    · show (if t = 52 then _ else θ2 t) = some x
      rw [if_neg fun e => by subst e; rw [f52] at hx; cases hx]
      exact hx
    · by_cases e : t = 52
      · subst e; exact .inr ⟨by decide, by decide⟩
      · left
        have : θ3 t = θ2 t := if_neg e
        rw [← this]; exact hq
    · have hb : (mkU kCuL.l1 .lf).get t = some b := hb
      rw [getCuL] at hb
      split at hb
      · rename_i e; subst e; cases hb
        exact pie_ok ht g52 a1 a2
      · split at hb
        · rename_i e; subst e; cases hb; exact ⟨x0, g50, hh0⟩
        · cases hb
    · rcases own s g q1 with ⟨rfl, h1⟩ | ⟨rfl, h1⟩ <;> rcases own t g q2 with ⟨rfl, h2⟩ | ⟨rfl, h2⟩
      · rfl
      · subst h1; exact absurd (hM.inj 51 50 _ (o51 _ a3) (o50 _ h2)) (by decide)
      · subst h2; exact absurd (hM.inj 51 50 _ (o51 _ a3) (o50 _ h1)) (by decide)
      · rfl
    · rcases own s g o with ⟨rfl, h1⟩ | ⟨rfl, h1⟩
      · subst h1; exact ⟨51, o51 _ a3⟩
      · exact ⟨50, o50 _ h1⟩
    · rw [← hv]
      have hp : 0 < (ρ.s 32).length := by
        obtain ⟨d, _, _, z1, z2, z3, _⟩ := hh1
        cases d with
        | lf => simp [PTr.lens] at z3
        | nd g o p l r =>
          obtain ⟨_, q, _⟩ := z1
          rw [← z2]
          simp only [PTr.text, List.length_append]; omega
      show den ρ θ3 (.tu [tv 50 [.a 30], .p 52 0]) = den ρ θ2 (.tu [tv 50 [.a 30], tv 51 [.a 32]])
      simp only [den, dens, tv, g50, g52, e0, e1, Option.map_some, Option.bind_some, lenA]
      rw [if_neg (show ¬ ((ρ.s 32).length : Int) ≤ 0 by omega)]
  · have q : (mkU kCuL.l1 .lf).get t ≠ none := q
    rw [getCuL] at q
    show 1 ≤ t ∧ t < 53
    split at q
    · omega
    · split at q
      · omega
      · exact absurd rfl q
theorem kCuF_ok {f : Nat} (hk : KnownOk Tryz.prog f kCu ρ) (h1 : ∃ c, ρ.s 31 = [c]) (ht : ∀ k, k < 3 → ρ.s (200 + 3 * 30 + k) = ctrF k (ρ.s 30)) : KnownOk Tryz.prog f kCuF ρ := fun hs => by
  obtain ⟨c, hc⟩ := h1
  refine CallR.post (r' := O4.of kCu) (hk hs) (fun θ2 w' v _ hM hfr hv => ?_) sat_nil (by decide) (fun t _ q => ?_)
  · have hM : MemOk ρ θ2 (mkU kCu.l1 .lf).get w' := hM
    have f52 : θ2 52 = none := hfr 52 (by decide) (by decide)
    obtain ⟨x0, e0, hh0⟩ := hM.holds 51 _ (getCu 51)
    obtain ⟨x1, e1, hh1⟩ := hM.holds 50 _ (getCu 50)
    have hh1 : Hid [0, 241] w' x1 (denS ρ [.a 30]) (denS ρ [.a 31]) := hh1
    rw [denA, denA, hc] at hh1
    obtain ⟨arr, p, a1, a2, a3⟩ := hid_one hh1
    let θ3 : Th := fun t => if t = 52 then some (x1.1, 12) else θ2 t
    have g52 : θ3 52 = some (x1.1, 12) := rfl
    have g51 : θ3 51 = some x0 := e0
    have o51 : ∀ {fa : Bool}, ∀ g, g ∈ lsD x0.2 → Own fa θ2 (mkU kCu.l1 .lf).get 51 g := fun g hg => ⟨x0, e0, by rw [getCu]; exact hg⟩
    have o50 : ∀ {fa : Bool}, ∀ g, g ∈ lsD x1.2 → Own fa θ2 (mkU kCu.l1 .lf).get 50 g := fun g hg => ⟨x1, e1, by rw [getCu]; exact hg⟩
    have own : ∀ {fa : Bool}, ∀ s g, Own fa θ3 (mkU kCuF.l1 .lf).get s g → (s = 52 ∧ g = x1.1) ∨ (s = 51 ∧ g ∈ lsD x0.2) := fun s g ⟨y, y1, y2⟩ => by
      rw [getCuF] at y2
      split at y2
      · rename_i e; subst e; rw [g51] at y1; cases y1; exact .inr ⟨rfl, y2⟩
      · split at y2
        · rename_i e; subst e; rw [g52] at y1; cases y1; exact .inl ⟨rfl, y2⟩
        · exact y2.elim
    refine ⟨θ3, fun t x hx => ?_, fun t hq => ?_, ⟨fun t b hb => ?_, fun s t g q1 q2 => ?_⟩, fun g ⟨s, o⟩ => ?_, ?_⟩
    · show (if t = 52 then _ else θ2 t) = some x
      rw [if_neg fun e => by subst e; rw [f52] at hx; cases hx]
      exact hx
    · by_cases e : t = 52
      · subst e; exact .inr ⟨by decide, by decide⟩
      · left
        have : θ3 t = θ2 t := if_neg e
        rw [← this]; exact hq
    · have hb : (mkU kCuF.l1 .lf).get t = some b := hb
      rw [getCuF] at hb
      split at hb
      · rename_i e; subst e; cases hb; exact ⟨x0, g51, hh0⟩
      · split at hb
        · rename_i e; subst e; cases hb
          exact pie_ok ht g52 a1 a2
        · cases hb
    · rcases own s g q1 with ⟨rfl, h1⟩ | ⟨rfl, h1⟩ <;> rcases own t g q2 with ⟨rfl, h2⟩ | ⟨rfl, h2⟩
      · rfl
      · subst h1; exact absurd (hM.inj 50 51 _ (o50 _ a3) (o51 _ h2)) (by decide)
      · subst h2; exact absurd (hM.inj 50 51 _ (o50 _ a3) (o51 _ h1)) (by decide)
      · rfl
    · rcases own s g o with ⟨rfl, h1⟩ | ⟨rfl, h1⟩
      · subst h1; exact ⟨50, o50 _ a3⟩
      · exact ⟨51, o51 _ h1⟩
    · rw [← hv]
      have hp : 0 < (ρ.s 30).length := by
        obtain ⟨d, _, _, z1, z2, z3, _⟩ := hh1
        cases d with
        | lf => simp [PTr.lens] at z3
        | nd g o p l r =>
          obtain ⟨_, q, _⟩ := z1
          rw [← z2]
          simp only [PTr.text, List.length_append]; omega
      show den ρ θ3 (.tu [.p 52 0, tv 51 [.a 32]]) = den ρ θ2 (.tu [tv 50 [.a 30], tv 51 [.a 32]])
      simp only [den, dens, tv, g51, g52, e0, e1, Option.map_some, Option.bind_some, lenA]
      rw [if_neg (show ¬ ((ρ.s 30).length : Int) ≤ 0 by omega)]
  · have q : (mkU kCuF.l1 .lf).get t ≠ none := q
    rw [getCuF] at q
    show 1 ≤ t ∧ t < 53
    split at q
    · omega
    · split at q
      · omega
      · exact absurd rfl q
end
end X
end Go.Proofs.YtebfahobllghnaaGreatDoor
namespace Go.Proofs.YtebfahobllghnaaGreatDoor
namespace X
open Go.RowKit B
set_option maxRecDepth 1000000
def pX : Bool → Str
  | true => [.a 20, .a 22]
  | false => []
def pQX : Bool → Str
  | true => [.a 21, .a 23]
  | false => []
def pY : Bool → Str
  | true => [.a 28, .a 30]
  | false => []
def pQY : Bool → Str
  | true => [.a 29, .a 31]
  | false => []
def sEn (a b : Bool) : SumF := fun args m nx pc K => match args with
  | [.tp t _, _] => match m.get t with
    | some (.hb _ l q) => match eqStr l [.a 20, .a 22] with
      | true => cutT rN kCuL ⟨[(20, [.a 20, .a 22]), (21, [.a 21, .a 23]), (30, [.a 20]), (31, [.a 21]), (32, [.a 22]), (33, [.a 23]), (296, ctr 0 [.a 22]), (297, ctr 1 [.a 22]), (298, ctr 2 [.a 22])], [(4100, lenS [.a 20])]⟩ args m nx pc K
      | false => cutT rN kCu ⟨[(20, appL (pX a) (.a 24 :: .a 25 :: .a 26 :: pY b)), (21, appL (pQX a) (.a 27 :: pQY b)), (30, pX a), (31, pQX a), (32, .a 24 :: .a 25 :: .a 26 :: pY b), (33, .a 27 :: pQY b)], [(4100, lenS (appL (pX a) [.a 24]))]⟩ args m nx pc K
    | _ => false
  | _ => false
def sBe (b : Bool) : SumF := fun args m nx pc K => match args with
  | [.tp t _, _] => match m.get t with
    | some (.hb _ l q) => match eqStr l [.a 28, .a 30] with
      | true => cutT rN kCuF ⟨[(20, [.a 28, .a 30]), (21, [.a 29, .a 31]), (30, [.a 28]), (31, [.a 29]), (32, [.a 30]), (33, [.a 31]), (290, ctr 0 [.a 28]), (291, ctr 1 [.a 28]), (292, ctr 2 [.a 28])], [(4100, .mk 1 [])]⟩ args m nx pc K
      | false => cutT rN kCu ⟨[(20, .a 24 :: .a 25 :: .a 26 :: pY b), (21, .a 27 :: pQY b), (30, [.a 24, .a 25, .a 26]), (31, [.a 27]), (32, pY b), (33, pQY b)], [(4100, lenS [.a 24, .a 25])]⟩ args m nx pc K
    | _ => false
  | _ => false
def sLa : SumF := fun args m nx pc K => cutT rN kFi ⟨[(20, [.a 20, .a 22]), (21, [.a 21, .a 23])], [(4105, lenS [.a 22])]⟩ args m nx pc K
def sFs : SumF := fun args m nx pc K => cutT rN kFi ⟨[(20, [.a 28, .a 30]), (21, [.a 29, .a 31])], [(4105, lenS [.a 28])]⟩ args m nx pc K
def M0 : Str := [.a 24, .a 32, .a 26]
def chTr : TrigK := fun s m nx pc => match s.get 1, s.get 2, s.get 3 with
  | some (.tp t _), some (.s M), some (.tp u _) => match m.get t, m.get u with
    | some (.hb _ la qa), some (.hb _ lb qb) => match eqStr M (.a 22 :: appL M0 [.a 28]) with
      | true => some (rN, kChS la qa (.a 22 :: appL M0 [.a 28]) [.a 44] lb qb)
      | false => match eqStr M (appL M0 [.a 28]) with
        | true => some (rN, kChS la qa (appL M0 [.a 28]) [.a 45] lb qb)
        | false => match eqStr M (.a 22 :: M0) with
          | true => some (rN, kChS la qa (.a 22 :: M0) [.a 46] lb qb)
          | false => match eqStr M M0 with
            | true => some (rN, kChS la qa M0 [.a 47] lb qb)
            | false => none
    | _, _ => none
  | _, _, _ => none
noncomputable def cWd : Code := bodyOf Tryz.f121.body
def smW (a b : Bool) : SumT := withF 181 sLa (withF 182 sFs (withF 83 sSz (withF 184 (sEn a b) (withF 185 (sBe b) (withF 183 sMg smZ)))))
noncomputable def sWd (a b : Bool) : SumF := fun args m nx pc K => callK Tryz.prog (smW a b) 1000000 50 121 (mkXK cWd [chTr]).1 args m nx pc K
noncomputable def smR (a b : Bool) : SumT := withF 82 sTx (withF 83 sSz (withF 184 (sEn a b) (withF 185 (sBe b) (withF 121 (sWd a b) smZ))))
def rL (a b : Bool) : Str := appL (pX a) (.a 24 :: .a 25 :: .a 26 :: pY b)
def rQ (a b : Bool) : Str := appL (pQX a) (.a 27 :: pQY b)
def rL' (a b : Bool) : Str := appL (pX a) (.a 24 :: .a 32 :: .a 26 :: pY b)
def kRp (a b : Bool) (p : PC) : Known := ⟨[.p 0 0, .x .i64 (lenS (appL (pX a) [.a 24])), .x .i64 (lenS (appL (pX a) [.a 24, .a 25])), .s [.a 32]], [(0, .ce 169 [.p 1 0, tv 2 (rL a b)] true), (1, hD), (2, hT 241 (rL a b) (rQ a b))], 3, p, .tu [], [(0, .ce 169 [.p 1 0, tv 50 (rL' a b)] true), (1, hD), (50, hT 241 (rL' a b) [.a 33])], 51, []⟩
def pcB0 (a b : Bool) : PC := (Lin.mk 1000 []).sub (lenS (.a 32 :: rL a b)) :: ((match a with | true => capP [.a 22] | false => []) ++ (match b with | true => capP [.a 28] | false => []))
def hintE (M : Str) (v : Nat) : Lin := ((lenS M).sub (.mk 1 [])).sub (.mk 0 [(v, 64)])
def hintP (M : Str) (v : Nat) : PC := [hintE M v, (Lin.mk 63 []).sub (hintE M v)]
def nzP : PC := [le1 [.a 25, .a 32]]
def z0P : PC := eq0 [.a 24] ++ (eq0 [.a 32] ++ eq0 [.a 26])
def absA : Lin := (Lin.mk 64 []).sub (lenS (.a 22 :: M0))
def absB (M : Str) (v : Nat) : Lin := (Lin.mk 63 []).sub ((hintE M v).add (lenS [.a 28]))
def absAB : Lin := (Lin.mk 64 []).sub (lenS (.a 22 :: appL M0 [.a 28]))
def both64 : Lin := (Lin.mk 64 []).sub (lenS [.a 22, .a 28])
noncomputable def runR (a b : Bool) (p : PC) (q l : Str) : Bool := runK (smR a b) 176 (rlE [([.a 33], q), (rL' a b, l)] [(lenS (rL' a b), lenS l)]) (kRp a b (pcB0 a b ++ p))
theorem r0_11 : runR true true (eq0 [.a 25] ++ eq0 [.a 32]) (rQ true true) (rL true true) = true := by kernel_rfl
theorem r0_10 : runR true false (eq0 [.a 25] ++ eq0 [.a 32]) (rQ true false) (rL true false) = true := by kernel_rfl
theorem r0_01 : runR false true (eq0 [.a 25] ++ eq0 [.a 32]) (rQ false true) (rL false true) = true := by kernel_rfl
theorem r0_00 : runR false false (eq0 [.a 25] ++ eq0 [.a 32]) (rQ false false) (rL false false) = true := by kernel_rfl
theorem r1_11 : runR true true (nzP ++ (z0P ++ [both64.not])) (appL (pQX true) (pQY true)) (appL (pX true) (pY true)) = true := by kernel_rfl
theorem r1_10 : runR true false (nzP ++ z0P) (pQX true) (pX true) = true := by kernel_rfl
theorem r1_01 : runR false true (nzP ++ z0P) (pQY true) (pY true) = true := by kernel_rfl
theorem r1_00 : runR false false (nzP ++ z0P) [] [] = true := by kernel_rfl
theorem r2_a : runR true true (nzP ++ (z0P ++ [both64])) [.a 21, .a 44, .a 31] (rL' true true) = true := by kernel_rfl
theorem r2_b : runR true true (nzP ++ [le1 M0, absA, absAB]) [.a 21, .a 44, .a 31] (rL' true true) = true := by kernel_rfl
theorem r2_c : runR true true (nzP ++ [le1 M0, absA, absAB.not]) [.a 21, .a 46, .a 29, .a 31] (rL' true true) = true := by kernel_rfl
theorem r2_d : runR true true (nzP ++ (le1 M0 :: absA.not :: absB M0 9986 :: hintP M0 9986)) [.a 21, .a 23, .a 45, .a 31] (rL' true true) = true := by kernel_rfl
theorem r2_e : runR true true (nzP ++ (le1 M0 :: absA.not :: (absB M0 9986).not :: hintP M0 9986)) [.a 21, .a 23, .a 47, .a 29, .a 31] (rL' true true) = true := by kernel_rfl
theorem r3_a : runR true false (nzP ++ [le1 M0, absA]) [.a 21, .a 46] (rL' true false) = true := by kernel_rfl
theorem r3_b : runR true false (nzP ++ [le1 M0, absA.not]) [.a 21, .a 23, .a 47] (rL' true false) = true := by kernel_rfl
theorem r4_a : runR false true (nzP ++ (le1 M0 :: absB M0 9986 :: hintP M0 9986)) [.a 45, .a 31] (rL' false true) = true := by kernel_rfl
theorem r4_b : runR false true (nzP ++ (le1 M0 :: (absB M0 9986).not :: hintP M0 9986)) [.a 47, .a 29, .a 31] (rL' false true) = true := by kernel_rfl
theorem r5 : runR false false (nzP ++ [le1 M0]) [.a 47] (rL' false false) = true := by kernel_rfl
end X
end Go.Proofs.YtebfahobllghnaaGreatDoor
namespace Go.Proofs.YtebfahobllghnaaGreatDoor
namespace X
open Go.RowKit B
set_option maxRecDepth 1000000
theorem mkXK_tr {P : Program} {ρ : Rho} : ∀ {c : Code} {l : List TrigK}, (∀ t ∈ l, ∀ b ∈ lpsK c, KnOk P ρ b t) → trXK P ρ (mkXK c l).1 ∧ ∀ t ∈ (mkXK c l).2, t ∈ l := by
  intro c
  induction c with
  | seq c k ihc ihk =>
    intro l hl
    have h1 := ihc (l := l) fun t ht b hb => hl t ht b (by simp only [lpsK, List.mem_append]; exact .inl hb)
    have h2 := ihk (l := (mkXK c l).2) fun t ht b hb => hl t (h1.2 t ht) b (by simp only [lpsK, List.mem_append]; exact .inr hb)
    exact ⟨⟨h1.1, h2.1⟩, fun t ht => h1.2 t (h2.2 t ht)⟩
  | block b d ih =>
    intro l hl
    cases d with
    | loop body =>
      cases l with
      | nil => exact ⟨trivial, fun t ht => ht⟩
      | cons t l => exact ⟨hl t List.mem_cons_self body List.mem_cons_self, fun x hx => List.mem_cons_of_mem _ hx⟩
    | _ => exact ⟨trivial, fun t ht => ht⟩
  | _ => exact fun hl => ⟨trivial, fun t ht => ht⟩
structure RpD (a b : Bool) (ρ : Rho) : Prop where
  tal : TalA ρ
  e1 : CutD (denS ρ (rL a b)) (denS ρ (rQ a b)) (denS ρ (pX a)) (denS ρ (pQX a)) (denS ρ (.a 24 :: .a 25 :: .a 26 :: pY b)) (denS ρ (.a 27 :: pQY b)) (endsK (denS ρ (rQ a b)) ((lenS (appL (pX a) [.a 24])).den ρ))
  e2 : CutD (denS ρ (.a 24 :: .a 25 :: .a 26 :: pY b)) (denS ρ (.a 27 :: pQY b)) (denS ρ [.a 24, .a 25, .a 26]) (ρ.s 27) (denS ρ (pY b)) (denS ρ (pQY b)) (begK (denS ρ (.a 27 :: pQY b)) ((lenS [.a 24, .a 25]).den ρ))
  e3 : CutD (denS ρ [.a 20, .a 22]) (denS ρ [.a 21, .a 23]) (ρ.s 20) (ρ.s 21) (ρ.s 22) (ρ.s 23) (endsK (denS ρ [.a 21, .a 23]) ((lenS [.a 20]).den ρ))
  e4 : CutD (denS ρ [.a 28, .a 30]) (denS ρ [.a 29, .a 31]) (ρ.s 28) (ρ.s 29) (ρ.s 30) (ρ.s 31) (begK (denS ρ [.a 29, .a 31]) 1)
  s23 : ∃ c, ρ.s 23 = [c]
  s29 : ∃ c, ρ.s 29 = [c]
  la : (ρ.s 22).length = lstQ (denS ρ [.a 21, .a 23])
  fs : (ρ.s 28).length = fstQ (denS ρ [.a 29, .a 31])
  c44 : 1 ≤ (denS ρ (.a 22 :: appL M0 [.a 28])).length → ChunkOk (denS ρ (.a 22 :: appL M0 [.a 28])).length (ρ.s 44)
  c45 : 1 ≤ (denS ρ (appL M0 [.a 28])).length → ChunkOk (denS ρ (appL M0 [.a 28])).length (ρ.s 45)
  c46 : 1 ≤ (denS ρ (.a 22 :: M0)).length → ChunkOk (denS ρ (.a 22 :: M0)).length (ρ.s 46)
  c47 : 1 ≤ (denS ρ M0).length → ChunkOk (denS ρ M0).length (ρ.s 47)
theorem fn_weld : Tryz.prog.funcs[121]? = some Tryz.f121 := by kernel_rfl
theorem join_weld : Tryz.f121.body = some (mkXK cWd [chTr]).1.code := by kernel_rfl
theorem lps_weld : lpsK cWd = [chB] := by kernel_rfl
section
variable {ρ : Rho} {a b : Bool}
theorem sEn_ok (D : RpD a b ρ) : CallY Tryz.prog ρ 184 (sEn a b) := CallY.of fun args m nx pc hs => by
  unfold sEn
  split
  · split
    · split
      · refine ⟨_, cutT_ok (kCuL_ok (part_ok endsF _ _ (Nat.lt_succ_self _) ?_) ?_ fun k hk => ?_), fun K => rfl⟩
        · have := D.e3
          show CutD (denS ρ [.a 20, .a 22]) (denS ρ [.a 21, .a 23]) (denS ρ [.a 20]) (denS ρ [.a 21]) (denS ρ [.a 22]) (denS ρ [.a 23]) _
          rw [denA, denA, denA, denA]
          exact this
        · obtain ⟨c, hc⟩ := D.s23
          exact ⟨c, (denA 23).trans hc⟩
        · have hk : k = 0 ∨ k = 1 ∨ k = 2 := by omega
          rcases hk with rfl | rfl | rfl <;> exact ctr_den D.tal (by decide) rfl
      · refine ⟨_, cutT_ok (part_ok endsF _ _ (Nat.lt_succ_self _) ?_), fun K => rfl⟩
        exact D.e1
    · exact ⟨_, CallY.no, fun K => rfl⟩
  · exact ⟨_, CallY.no, fun K => rfl⟩
theorem sBe_ok (D : RpD a b ρ) : CallY Tryz.prog ρ 185 (sBe b) := CallY.of fun args m nx pc hs => by
  unfold sBe
  split
  · split
    · split
      · refine ⟨_, cutT_ok (kCuF_ok (part_ok begsF _ _ (Nat.lt_succ_self _) ?_) ?_ fun k hk => ?_), fun K => rfl⟩
        · have := D.e4
          show CutD (denS ρ [.a 28, .a 30]) (denS ρ [.a 29, .a 31]) (denS ρ [.a 28]) (denS ρ [.a 29]) (denS ρ [.a 30]) (denS ρ [.a 31]) (begK (denS ρ [.a 29, .a 31]) ((Lin.mk 1 []).den ρ))
          rw [denA, denA, denA, denA, const_den]
          exact this
        · obtain ⟨c, hc⟩ := D.s29
          exact ⟨c, (denA 29).trans hc⟩
        · have hk : k = 0 ∨ k = 1 ∨ k = 2 := by omega
          rcases hk with rfl | rfl | rfl <;> exact ctr_den D.tal (by decide) rfl
      · refine ⟨_, cutT_ok (part_ok begsF _ _ (Nat.lt_succ_self _) ?_), fun K => rfl⟩
        have := D.e2
        show CutD _ _ _ (denS ρ [.a 27]) _ _ _
        rw [denA]
        exact this
    · exact ⟨_, CallY.no, fun K => rfl⟩
  · exact ⟨_, CallY.no, fun K => rfl⟩
theorem sLa_ok (D : RpD a b ρ) : CallY Tryz.prog ρ 181 sLa := cutT_ok (wk_ok lastF (by
  show (lenS [.a 22]).den ρ = ((lstQ (denS ρ [.a 21, .a 23]) : Nat) : Int)
  rw [lenA, D.la]))
theorem sFs_ok (D : RpD a b ρ) : CallY Tryz.prog ρ 182 sFs := cutT_ok (wk_ok firstF (by
  show (lenS [.a 28]).den ρ = ((fstQ (denS ρ [.a 29, .a 31]) : Nat) : Int)
  rw [lenA, D.fs]))
theorem smW_ok (D : RpD a b ρ) : SumOk Tryz.prog ρ (smW a b) := withF_ok (withF_ok (withF_ok (withF_ok (withF_ok (withF_ok (smZ_ok ρ) sMg_ok) (sBe_ok D)) (sEn_ok D)) sSz_ok) (sFs_ok D)) (sLa_ok D)
theorem chTr_ok (D : RpD a b ρ) : KnOk Tryz.prog ρ chB chTr := fun s m nx pc rs k h => by
  unfold chTr at h
  split at h
  · split at h
    · split at h
      · cases h; exact ⟨rN_okA, kChS_ok fun q => by rw [denA]; exact D.c44 q⟩
      · split at h
        · cases h; exact ⟨rN_okA, kChS_ok fun q => by rw [denA]; exact D.c45 q⟩
        · split at h
          · cases h; exact ⟨rN_okA, kChS_ok fun q => by rw [denA]; exact D.c46 q⟩
          · split at h
            · cases h; exact ⟨rN_okA, kChS_ok fun q => by rw [denA]; exact D.c47 q⟩
            · cases h
    · cases h
  · cases h
theorem sWd_ok (D : RpD a b ρ) : CallY Tryz.prog ρ 121 (sWd a b) := fun args m nx pc hs => callK_yl mixJ (smW_ok D) fn_weld join_weld (mkXK_tr fun t ht b hb => by
  rw [lps_weld] at hb
  have h1 : t = chTr := by simpa using ht
  have h2 : b = chB := by simpa using hb
  rw [h1, h2]
  exact chTr_ok D).1 hs
theorem smR_ok (D : RpD a b ρ) : SumOk Tryz.prog ρ (smR a b) := withF_ok (withF_ok (withF_ok (withF_ok (withF_ok (smZ_ok ρ) (sWd_ok D)) (sBe_ok D)) (sEn_ok D)) sSz_ok) sTx_ok
theorem rp_case {p : PC} {q l : Str} (D : RpD a b ρ) (run : runR a b p q l = true) (h33 : ρ.s 33 = denS ρ q) (hl : denS ρ (rL' a b) = denS ρ l) (hp : Sat ρ (pcB0 a b ++ p)) : KnownOk Tryz.prog 176 (kRp a b []) ρ :=
  KnownOk.pc (k := kRp a b []) (p := pcB0 a b ++ p) (runK_ok (smR_ok D) (rlE_ok (fun x h => by
    simp only [List.mem_cons, List.not_mem_nil, or_false] at h
    rcases h with rfl | rfl
    · rw [denA, h33]
    · exact hl) fun x h => by
    simp only [List.mem_cons, List.not_mem_nil, or_false] at h
    subst h
    show (lenS _).den ρ = (lenS _).den ρ
    rw [lenS_den, lenS_den, hl]) run) hp
end
def PcOk (q : List UInt8) : Prop := ∀ c ∈ q, 1 ≤ c.toNat ∧ c.toNat ≤ 64
theorem PcOk.app {p q : List UInt8} (h : PcOk p) (k : PcOk q) : PcOk (p ++ q) := fun c hc => (List.mem_append.1 hc).elim (h c) (k c)
theorem PcOk.left {p q : List UInt8} (h : PcOk (p ++ q)) : PcOk p := fun c hc => h c (List.mem_append_left _ hc)
theorem PcOk.right {p q : List UInt8} (h : PcOk (p ++ q)) : PcOk q := fun c hc => h c (List.mem_append_right _ hc)
theorem chunk_sum : ∀ {n : Nat} {l : List UInt8}, ChunkOk n l → sumQ l = n ∧ PcOk l := by
  intro n l h
  induction h with
  | @one n h1 h2 =>
    refine ⟨by simp only [sumQ, ofNat_le h2]; omega, fun c hc => ?_⟩
    have : c = UInt8.ofNat n := by simpa using hc
    rw [this, ofNat_le h2]
    exact ⟨h1, h2⟩
  | @more n l h1 h2 ih =>
    refine ⟨by simp only [sumQ, ih.1]; show 64 + (n - 64) = n; omega, fun c hc => ?_⟩
    rcases List.mem_cons.1 hc with rfl | hc
    · decide
    · exact ih.2 c hc
theorem endsK_sum : ∀ (Q : List UInt8) (i : Int), 0 ≤ i → ((sumQ (Q.take (endsK Q i)) : Nat) : Int) ≤ i
  | [], i, h => by simpa [sumQ] using h
  | c :: Q, i, h => by
    rw [endsK]
    split
    · rename_i hc
      have ih := endsK_sum Q (i - c.toNat) (by omega)
      rw [show 1 + endsK Q (i - c.toNat) = endsK Q (i - c.toNat) + 1 by omega, List.take_succ_cons, sumQ]
      omega
    · simpa [sumQ] using h
theorem begK_sum : ∀ (Q : List UInt8) (i : Int), i ≤ (sumQ Q : Int) → i ≤ ((sumQ (Q.take (begK Q i)) : Nat) : Int)
  | [], i, h => by simpa [sumQ] using h
  | c :: Q, i, h => by
    rw [begK]
    rw [sumQ] at h
    split
    · have ih := begK_sum Q (i - c.toNat) (by omega)
      rw [show 1 + begK Q (i - c.toNat) = begK Q (i - c.toNat) + 1 by omega, List.take_succ_cons, sumQ]
      omega
    · rename_i hc
      simp only [List.take_zero, sumQ]
      omega
theorem endsK_all : ∀ (Q : List UInt8) (i : Int), (sumQ Q : Int) ≤ i → endsK Q i = Q.length
  | [], i, h => rfl
  | c :: Q, i, h => by
    rw [sumQ] at h
    rw [endsK, if_pos (by omega), endsK_all Q _ (by omega), List.length_cons]
    omega
theorem begK_neg : ∀ (Q : List UInt8) (i : Int), i ≤ 0 → begK Q i = 0
  | [], i, h => rfl
  | c :: Q, i, h => by rw [begK, if_neg (by omega)]
theorem endsK_last {Q : List UInt8} {c : UInt8} (h : 1 ≤ c.toNat) : endsK (Q ++ [c]) (sumQ Q : Int) = Q.length := by
  rw [endsK_app, if_neg (by omega), endsK_all _ _ (by omega)]
theorem begK_first {Q : List UInt8} {c : UInt8} (h : 1 ≤ c.toNat) : begK (c :: Q) 1 = 1 := by
  rw [begK, if_pos (by decide), begK_neg _ _ (by omega)]
theorem split_of {l1 l2 X Z : List UInt8} (h : X ++ Z = l1 ++ l2) (hl : l1.length ≤ X.length) : ∃ u, X = l1 ++ u ∧ l2 = u ++ Z := by
  rcases List.append_eq_append_iff.1 h with ⟨u, h1, h2⟩ | ⟨u, h1, h2⟩
  · have := congrArg List.length h1
    rw [List.length_append] at this
    have hu : u = [] := List.eq_nil_of_length_eq_zero (by omega)
    subst hu
    exact ⟨[], by rw [h1]; simp, by rw [h2]; rfl⟩
  · exact ⟨u, h1, h2⟩
end X
end Go.Proofs.YtebfahobllghnaaGreatDoor
