/-
  Code and calls: what the executor's answer tells. Over any program.
-/
import Derived.Test.YtdbchpoaoghgpaaGreatDoorW7
set_option linter.unusedSimpArgs false
set_option linter.unusedVariables false
namespace Go.Proofs.YtdbchpoaoghgpaaGreatDoor
namespace X
open Go.RowKit B

/-! ### Loops -/
def LoopWp (P : Program) (c : Code) (Q : Exit → Act → World → Prop) (a : Act) (w : World) : Prop :=
  ∀ (b : Frame) (k : List Item) (cs : List Frame), ∃ e a' w', Q e a' w' ∧ Arrives P (lone (b.at a (.code c :: .inLoop c :: k)) cs w) b k cs e a' w'
theorem loop_of {P : Program} {c : Code} {Q : Exit → Act → World → Prop} {a : Act} {w : World} (h : LoopWp P c Q a w) : (Code.loop c).wp P Q a w := fun b k cs => by
  obtain ⟨e, a', w', hq, harr⟩ := h b k cs
  exact ⟨e, a', w', hq, .of_steps (.one step_loop) harr⟩
theorem loop_step {P : Program} {c : Code} {Q : Exit → Act → World → Prop} {a : Act} {w : World} (h : c.wp P (Exit.then (LoopWp P c Q) Q) a w) : LoopWp P c Q a w := fun b k cs => by
  obtain ⟨e, a₁, w₁, hq, harr⟩ := h b (.inLoop c :: k) cs
  cases e with
  | normal =>
    obtain ⟨e₂, a₂, w₂, hq₂, harr₂⟩ := hq b k cs
    exact ⟨e₂, a₂, w₂, hq₂, .of_steps (Steps.trans harr (.one step_inLoop)) harr₂⟩
  | exit id => exact ⟨_, a₁, w₁, hq, .pass (x := .inLoop c) rfl (fun _ _ => .inl (by simp)) harr⟩
  | goto l => exact ⟨_, a₁, w₁, hq, .pass (x := .inLoop c) rfl (fun _ _ => .inl (by simp)) harr⟩
  | ret => exact ⟨_, a₁, w₁, hq, .pass (x := .inLoop c) rfl (fun _ _ => .inl (by simp)) harr⟩
  | panic ch => exact ⟨_, a₁, w₁, hq, .pass (x := .inLoop c) rfl (fun _ _ => .inl (by simp)) harr⟩
  | outgrown => exact ⟨_, a₁, w₁, hq, .pass (x := .inLoop c) rfl (fun _ _ => .inl (by simp)) harr⟩
theorem LoopWp.mono {P : Program} {c : Code} {Q Q' : Exit → Act → World → Prop} {a : Act} {w : World} (h : LoopWp P c Q a w) (hq : ∀ e a w, Q e a w → Q' e a w) : LoopWp P c Q' a w := fun b k cs => by
  obtain ⟨e, a', w', q, r⟩ := h b k cs
  exact ⟨e, a', w', hq _ _ _ q, r⟩
/-- code goes on so; of a loop: from its round's beginning -/
def Goes (P : Program) (c : Code) (Q : Exit → Act → World → Prop) (a : Act) (w : World) : Prop := match c with
  | .loop c => LoopWp P c Q a w
  | c => c.wp P Q a w
theorem Goes.wp {P : Program} {c : Code} {Q : Exit → Act → World → Prop} {a : Act} {w : World} (h : Goes P c Q a w) : c.wp P Q a w := by
  cases c with
  | loop c => exact loop_of h
  | _ => exact h
theorem Goes.mono {P : Program} {c : Code} {Q Q' : Exit → Act → World → Prop} {a : Act} {w : World} (h : Goes P c Q a w) (hq : ∀ e a w, Q e a w → Q' e a w) : Goes P c Q' a w := by
  cases c with
  | loop c => exact LoopWp.mono h hq
  | _ => exact wp_mono (c := _) h hq

/-! ### Code -/
def exIs : AX → Exit → Prop
  | .normal, e => e = .normal
  | .exit i, e => e = .exit i
  | .ret, e => e = .ret
def EPost (ρ : Rho) (n : Nat) (m : Mem) (nx : Nat) (w : World) (θ : Th) (r : AX × OS) (e : Exit) (a' : Act) (w' : World) : Prop := exIs r.1 e ∧ ∃ θ', At ρ n r.2.s r.2.m a' w' θ' ∧ SP ρ nx r.2.nx θ m.get w θ' r.2.m.get w'
structure EvR (P : Program) (ρ : Rho) (n : Nat) (c : Code) (s : Tr SV) (m : Mem) (nx : Nat) (r : AX × OS) : Prop where
  pc : Sat ρ r.2.pc
  le : nx ≤ r.2.nx
  new : ∀ t, m.get t = none → r.2.m.get t ≠ none → nx ≤ t ∧ t < r.2.nx
  run : ∀ (a : Act) (w : World) (θ : Th), At ρ n s m a w θ → (∀ t, nx ≤ t → t < r.2.nx → θ t = none) → Goes P c (EPost ρ n m nx w θ r) a w
def EvSp (P : Program) (ρ : Rho) (E : Code → Tr SV → Mem → Nat → PC → KC → Bool) : Prop := ∀ n c s m nx pc, Sat ρ pc → dstOk n c = true → Yl (fun K => E c s m nx pc fun e s m nx pc => K (e, ⟨s, m, nx, pc⟩)) (EvR P ρ n c s m nx)
section
variable {P : Program} {ρ : Rho} {s : Tr SV} {m : Mem} {nx : Nat} {pc : PC} {n : Nat} {c c1 c2 : Code} {r : AX × OS}
theorem EvR.stay {e : AX} (hs : Sat ρ pc) (h : ∀ (a : Act) (w : World) (Q : Exit → Act → World → Prop), (∀ e', exIs e e' → Q e' a w) → Goes P c Q a w) : EvR P ρ n c s m nx (e, ⟨s, m, nx, pc⟩) :=
  ⟨hs, Nat.le_refl _, fun t h1 h2 => absurd h1 h2, fun a w θ hA _ => h a w _ fun e' he => ⟨he, θ, hA, SP.refl hA.mem⟩⟩
/-- one behind another -/
theorem EvR.join {o : OS} (h1 : EvR P ρ n c1 s m nx (.normal, o)) (h2 : EvR P ρ n c2 o.s o.m o.nx r) (hg : ∀ (a : Act) (w : World) (Q : Exit → Act → World → Prop), c1.wp P (Exit.then (fun a w => Goes P c2 Q a w) Q) a w → Goes P c Q a w) : EvR P ρ n c s m nx r := by
  have l1 := h1.le
  have l2 := h2.le
  simp only at l1
  refine ⟨h2.pc, Nat.le_trans l1 l2, fun t e1 e2 => ?_, fun a w θ hA hfr => hg a w _ (wp_mono (h1.run a w θ hA fun t q1 q2 => hfr t q1 (by simp only at q2; omega)).wp fun e a' w' hp => ?_)⟩
  · by_cases e3 : o.m.get t = none
    · have := h2.new t e3 e2; exact ⟨by omega, this.2⟩
    · have := h1.new t e1 e3; simp only at this; exact ⟨this.1, by omega⟩
  · obtain ⟨he, θ', hA', hsp⟩ := hp
    cases he
    refine (h2.run a' w' θ' hA' fun t q1 q2 => ?_).mono fun e a2 w2 ⟨he2, θ2, hA2, hsp2⟩ => ⟨he2, θ2, hA2, hsp.trans hsp2 l1 l2⟩
    cases hb : θ' t with
    | none => rfl
    | some u =>
      exfalso
      rcases hsp.new t (by rw [hb]; simp) with q | q
      · exact q (hfr t (by omega) q2)
      · simp only at q; omega
theorem EvR.cut {o : OS} {e : AX} (h1 : EvR P ρ n c1 s m nx (e, o)) (he : e ≠ .normal) (hg : ∀ (a : Act) (w : World) (Q Q' : Exit → Act → World → Prop), c1.wp P Q' a w → (∀ e' a w, exIs e e' → Q' e' a w → Q e' a w) → (∀ e' a w, Q' e' a w → exIs e e') → Goes P c Q a w) : EvR P ρ n c s m nx (e, o) :=
  ⟨h1.pc, h1.le, h1.new, fun a w θ hA hfr => hg a w _ _ (h1.run a w θ hA hfr).wp (fun e' a w _ h => h) fun e' a w h => h.1⟩
theorem then_cut {e : AX} (he : e ≠ .normal) {K : Act → World → Prop} {Q Q' : Exit → Act → World → Prop} (h1 : ∀ e' a w, exIs e e' → Q' e' a w → Q e' a w) (h2 : ∀ e' a w, Q' e' a w → exIs e e') : ∀ e' a w, Q' e' a w → Exit.then K Q e' a w := fun e' a w h => by
  have := h2 _ _ _ h
  cases e with
  | normal => exact absurd rfl he
  | exit i => have e3 : e' = .exit i := this; subst e3; exact h1 _ _ _ this h
  | ret => have e3 : e' = .ret := this; subst e3; exact h1 _ _ _ this h

/-! ### Calls -/
theorem argC_yl : ∀ {l : List SV} {i : Nat} {s : Tr SV}, Yl (argC l i s) fun s' => ∀ j v, s'.get j = some v → (i ≤ j ∧ l[j - i]? = some v) ∨ s.get j = some v
  | [], i, s => Yl.pure _ fun j v hj => .inr hj
  | x :: l, i, s => by
    have e : argC (x :: l) i s = fun K => s.set i (some x) fun s => argC l (Nat.succ i) s K := rfl
    rw [e]
    refine Yl.bind set_yl fun s1 h1 => argC_yl.mono fun s' h2 j v hj => ?_
    rcases h2 j v hj with ⟨h3, h4⟩ | h3
    · refine .inl ⟨by omega, ?_⟩
      rw [show j - i = (j - Nat.succ i) + 1 by omega]
      simpa using h4
    · rw [h1] at h3
      split at h3
      · rename_i e; subst e; cases h3; exact .inl ⟨Nat.le_refl _, by simp⟩
      · exact .inr h3
def resM (a : Act) : ResultVar → Sem Value
  | .tmp t => pure (a.tmps.getD t undef)
  | .cell b t => do loadVar t (← asAddr (a.tmps.getD b undef))
theorem loadVar_yl {t : Nat} {y : Ty} (ok : TyOk P t y) {g ty off : Nat} {cs : List SV} {ex : Bool} (hg : m.get g = some (.ce ty cs ex)) : Yl (partC y cs off) fun v => ∀ (w : World) (θ : Th), MemOk ρ θ m.get w → ∃ q u, θ g = some q ∧ den ρ θ v = some u ∧ (loadVar t ⟨q.1, off, none⟩).run P w = .ok u w := by
  unfold partC
  split
  · rename_i hag
    refine Yl.map (fun l => SV.ag l) segC_yl fun l hl w θ hM => ?_
    obtain ⟨q, c, vs, h1, h2, h3, h4, h5⟩ := (hM.holds _ _ hg).cells
    have hlen := dens_len h2
    refine ⟨_, .agg ((vs.drop off).take y.sz).toArray, h1, by simp [den, hl.2, dens_take _ (dens_drop _ h2)], ?_⟩
    simp only [loadVar, Sem.run_bind, ok.isAgg, hag, Result.andThen_ok, if_true, ok.size, loadCells]
    have hl2 : ((vs.drop off).take y.sz).length = y.sz := by simp; omega
    have := B.run_loadCellsFrom (P := P) (w := w) ((vs.drop off).take y.sz) ⟨q, off, none⟩ 0 #[] fun j u hj => by
      rw [Nat.zero_add, cell_at]
      refine h4 _ u ?_
      have hj1 : j < y.sz := by have := (List.getElem?_eq_some_iff.1 hj).1; simp at this; omega
      rw [List.getElem?_take_of_lt hj1, List.getElem?_drop] at hj
      exact hj
    rw [hl2] at this
    rw [this]
    simp
  · rename_i hag
    refine nthC_yl.mono fun v hu w θ hM => ?_
    obtain ⟨q, c, vs, h1, h2, h3, h4, h5⟩ := (hM.holds _ _ hg).cells
    obtain ⟨u', g1, g2⟩ := dens_get h2 hu
    refine ⟨_, u', h1, g2, ?_⟩
    have hc := h4 _ _ g1
    simp [loadVar, ok.isAgg, hag, load, Sem.run, hc]
theorem resC_yl : ∀ {rs : List ResultVar}, Yl (resC P s m rs) fun vs => ∀ (a : Act) (w : World) (θ : Th), At ρ n s m a w θ → ∃ us, dens ρ θ vs = some us ∧ (rs.mapM (resM a)).run P w = .ok us w
  | [] => Yl.pure _ fun a w θ _ => ⟨[], rfl, by simp⟩
  | .tmp t :: l => by
    have e : resC P s m (.tmp t :: l) = fun K => match s.get t with
      | some v => resC P s m l fun r => K (v :: r)
      | none => false := rfl
    rw [e]
    split
    · rename_i v hv
      refine Yl.map (fun r => v :: r) resC_yl fun vs h a w θ hA => ?_
      obtain ⟨us, h1, h2⟩ := h a w θ hA
      refine ⟨B.get a t :: us, by simp [dens, hA.slot t v hv, h1], ?_⟩
      rw [List.mapM_cons]
      simp only [resM, Sem.run_bind, Sem.run_pure, Result.andThen_ok, h2]
      rfl
    · exact Yl.no
  | .cell b t :: l => by
    have e : resC P s m (.cell b t :: l) = fun K => match mkTy P t, s.get b with
      | some y, some (.p g off) => match m.get g with
        | some (.ce _ cs _) => partC y cs off fun v => resC P s m l fun r => K (v :: r)
        | _ => false
      | _, _ => false := rfl
    rw [e]
    split
    · rename_i y g off hy hv
      obtain ⟨ok⟩ := mkTy_ok hy
      split
      · rename_i ty cs ex hg
        refine Yl.bind (loadVar_yl (ρ := ρ) ok hg) fun v h0 => ?_
        refine Yl.map (fun r => v :: r) resC_yl fun vs h a w θ hA => ?_
        obtain ⟨us, h1, h2⟩ := h a w θ hA
        obtain ⟨q, u, h3, h4, h5⟩ := h0 w θ hA.mem
        have h6 := hA.slot b _ hv
        simp only [den, h3, Option.map_some, Option.some.injEq] at h6
        refine ⟨u :: us, by simp [dens, h4, h1], ?_⟩
        have e3 : a.tmps.getD b undef = .pointer (some ⟨q.1, off, none⟩) := h6.symm
        rw [List.mapM_cons]
        simp only [resM, Sem.run_bind, e3, asAddr, Sem.run_pure, Result.andThen_ok, h5, h2]
      · exact Yl.no
    · exact Yl.no
def oneVal : List Value → Value
  | [u] => u
  | us => .tuple us.toArray
theorem run_results {fn : Func} {a : Act} {w : World} {us : List Value} (h : (fn.results.toList.mapM (resM a)).run P w = .ok us w) :
    (results fn a.tmps).run P w = .ok (oneVal us) w := by
  have e : results fn a.tmps = (fn.results.mapM (resM a)) >>= fun vs => pure (if h : vs.size = 1 then vs[0] else .tuple vs) := rfl
  simp only [e, Sem.run_bind, Array.mapM_eq_mapM_toList, Sem.run_map, h, Result.andThen_ok, Sem.run_pure]
  match us with
  | [] => rfl
  | [u] => rfl
  | u :: u' :: l => simp [oneVal]
theorem retV_den {θ : Th} {vs : List SV} {us : List Value} (h : dens ρ θ vs = some us) : den ρ θ (retV vs) = some (oneVal us) := by
  have hl := dens_len h
  match vs, us, hl with
  | [], [], _ => rfl
  | [v], [u], _ => simp only [dens, Option.bind_eq_some_iff, Option.map_eq_some_iff, Option.some.injEq] at h; obtain ⟨u', h1, us', rfl, h2⟩ := h; cases h2; exact h1
  | v :: v' :: l, u :: u' :: l', _ => simp only [retV, oneVal, den, h, Option.map_some]
def SumOk (P : Program) (ρ : Rho) (sm : SumT) : Prop := ∀ f h, sm f = some h → ∀ args m nx pc, Sat ρ pc → Yl (fun K => h args m nx pc fun v m nx pc => K ⟨v, m, nx, pc⟩) (CallR P ρ f args m nx)
theorem enter_run {f : Nat} {fn : Func} {c : Code} (hf : P.funcs[f]? = some fn) (hn : (fn.name == "runtime.NumGoroutine") = false) (hb : fn.body = some c) (args : Array Value) (w : World) : (callFunc f args).run P w = .ok (.enter f args) w := by
  have h3' : fn.body.isNone = false := by rw [hb]; rfl
  simp only [callFunc, Sem.run_bind, run_program, Result.andThen_ok, hf, hn, h3', Bool.false_eq_true, if_false, Sem.run_pure]
theorem callBy_yl {sm : SumT} {E : Code → Tr SV → Mem → Nat → PC → KC → Bool} (hsm : SumOk P ρ sm) (hE : EvSp P ρ E) : CallSp P ρ (callBy P sm E) := fun f args m nx pc hs => by
  unfold callBy
  split
  · rename_i h hh
    exact hsm f h hh args m nx pc hs
  · split
    · rename_i fn hf
      split
      · rename_i c hb
        split
        · rename_i hok
          simp only [Bool.and_eq_true, Bool.not_eq_true', Nat.ble_eq] at hok
          obtain ⟨⟨k1, k2⟩, k3⟩ := hok
          refine Yl.bind argC_yl fun s0 hs0 => ?_
          refine Yl.bind (α := AX × OS) (β := O4) (F := fun K => E c s0 m nx pc fun e s m nx pc => K (e, ⟨s, m, nx, pc⟩)) (G := fun r K => match r.1 with
            | .exit _ => false
            | _ => resC P r.2.s r.2.m fn.results.toList fun vs => K ⟨retV vs, r.2.m, r.2.nx, r.2.pc⟩) (hE fn.ntmps c s0 m nx pc hs k3) fun r hr => ?_
          have fin : Yl (fun K => resC P r.2.s r.2.m fn.results.toList fun vs => K (⟨retV vs, r.2.m, r.2.nx, r.2.pc⟩ : O4)) (fun q => ((r.1 = .normal ∨ r.1 = .ret) → CallR P ρ f args m nx q)) := by
            refine Yl.map (fun vs => (⟨retV vs, r.2.m, r.2.nx, r.2.pc⟩ : O4)) (resC_yl (ρ := ρ) (n := fn.ntmps)) fun vs hvs hre => ⟨enter_run hf k1 hb, hr.pc, hr.le, hr.new, fun w θ us hus hM hfr => ?_⟩
            have hlen := dens_len hus
            refine calls_of_wp hf hb (wp_mono (hr.run _ w θ ⟨rfl, ?_, fun k sv hk => ?_, hM⟩ hfr).wp fun e a w' ⟨he, θ', hA, hsp⟩ => ?_)
            · show (us.toArray ++ Array.replicate (fn.ntmps - us.toArray.size) undef).size = fn.ntmps
              simp [hlen]; omega
            · rcases hs0 k sv hk with ⟨_, h1⟩ | h1
              · rw [Nat.sub_zero] at h1
                obtain ⟨u, h2, h3⟩ := dens_get hus h1
                rw [h3]
                have hlt := (List.getElem?_eq_some_iff.1 h2).1
                show _ = some ((us.toArray ++ Array.replicate (fn.ntmps - us.toArray.size) undef).getD k undef)
                rw [Array.getD_eq_getD_getElem?, Array.getElem?_append_left (by simpa using hlt)]
                simp [h2]
              · simp [Tr.get] at h1
            · obtain ⟨us', h1, h2⟩ := hvs a w' θ' hA
              have post : a.defers = [] ∧ ∃ v, (results fn a.tmps).run P w' = .ok v w' ∧ ∃ v' θ'', Ending.returned v = .returned v' ∧ SP ρ nx r.2.nx θ m.get w θ'' r.2.m.get w' ∧ den ρ θ'' (retV vs) = some v' :=
                ⟨hA.defers, _, run_results h2, _, θ', rfl, hsp, retV_den h1⟩
              rcases hre with h | h <;> rw [h] at he <;> cases he <;> exact post
          split
          · exact Yl.no
          · rename_i h1
            refine fin.mono fun q hq => hq ?_
            cases hr1 : r.1 with
            | normal => exact .inl rfl
            | exit i => exact absurd hr1 (h1 i)
            | ret => exact .inr rfl
        · exact Yl.no
      · exact Yl.no
    · exact Yl.no
/-- THE LAW of the executor -/
theorem ev_yl (hm : P.follows .mixedOrders = true) {sm : SumT} (hsm : SumOk P ρ sm) : ∀ f, EvSp P ρ (ev P sm f)
  | 0 => fun n c s m nx pc hs hd => Yl.no
  | f + 1 => fun n c s m nx pc hs hd => by
    have ih := ev_yl hm hsm f
    cases c with
    | skip => exact Yl.pure (AX.normal, (⟨s, m, nx, pc⟩ : OS)) (EvR.stay hs fun a w Q hq => wp_skip (hq _ rfl))
    | label l => exact Yl.pure (AX.normal, (⟨s, m, nx, pc⟩ : OS)) (EvR.stay hs fun a w Q hq => wp_label (hq _ rfl))
    | exit i => exact Yl.pure (AX.exit i, (⟨s, m, nx, pc⟩ : OS)) (EvR.stay hs fun a w Q hq => wp_exit (hq _ rfl))
    | ret => exact Yl.pure (AX.ret, (⟨s, m, nx, pc⟩ : OS)) (EvR.stay hs fun a w Q hq => wp_ret (hq _ rfl))
    | region id ops draw =>
      have hdst : ∀ o ∈ ops.toList, ∀ d, o.dst = some d → d < n := fun o ho d hod => by
        simp only [dstOk, List.all_eq_true] at hd
        have := hd o ho
        rw [hod] at this
        exact Nat.le_of_ble_eq_true this
      refine Yl.map (F := fun K => exR P (callBy P sm (ev P sm f)) ops.toList draw s m nx pc fun s m nx pc => K ⟨s, m, nx, pc⟩) (fun o : OS => (AX.normal, o)) (exR_yl (n := n) (callBy_yl hsm ih) hs) fun r ⟨tr, htr, hdr⟩ => ?_
      exact ⟨htr.pc, htr.le, htr.new, fun a w θ hA hfr => region_ok hm hdst htr hdr hA hfr fun a' w' θ' hA' hsp => ⟨rfl, θ', hA', hsp⟩⟩
    | seq x y =>
      simp only [dstOk, Bool.and_eq_true] at hd
      refine Yl.bind (α := AX × OS) (β := AX × OS) (F := fun K => ev P sm f x s m nx pc fun e s m nx pc => K (e, ⟨s, m, nx, pc⟩)) (G := fun r K => match r.1 with
        | .normal => ev P sm f y r.2.s r.2.m r.2.nx r.2.pc fun e s m nx pc => K (e, ⟨s, m, nx, pc⟩)
        | e => K (e, r.2)) (ih n x s m nx pc hs hd.1) fun r hr => ?_
      obtain ⟨e, o⟩ := r
      cases e with
      | normal => exact (ih n y o.s o.m o.nx o.pc hr.pc hd.2).mono fun r2 hr2 => hr.join hr2 fun a w Q h => wp_seq (wp_mono h fun e a w h => by cases e <;> first | exact Goes.wp h | exact h)
      | exit i => exact Yl.pure (α := AX × OS) _ (hr.cut (by simp) fun a w Q Q' h h1 h2 => wp_seq (wp_mono h (then_cut (by simp) h1 h2)))
      | ret => exact Yl.pure (α := AX × OS) _ (hr.cut (by simp) fun a w Q Q' h h1 h2 => wp_seq (wp_mono h (then_cut (by simp) h1 h2)))
    | cond x a b =>
      simp only [dstOk, Bool.and_eq_true] at hd
      refine Yl.bind (evO_yl (ρ := ρ)) fun v hv => ?_
      have ev' : ∀ {t : Bool}, v = .b t → ∀ {act : Act} {w : World} {θ : Th}, At ρ n s m act w θ → act.eval x = .bool t := fun {t} ht {act w θ} hA => by
        have := hv θ act fun k _ sv hk => hA.slot k sv hk
        rw [ht] at this
        exact (Option.some.inj this).symm
      split
      · rename_i t
        split
        · exact (ih n a s m nx pc hs hd.1).mono fun r hr => ⟨hr.pc, hr.le, hr.new, fun act w θ hA hfr => wp_cond_true (ev' rfl hA) (hr.run act w θ hA hfr).wp⟩
        · exact (ih n b s m nx pc hs hd.2).mono fun r hr => ⟨hr.pc, hr.le, hr.new, fun act w θ hA hfr => wp_cond_false (ev' rfl hA) (hr.run act w θ hA hfr).wp⟩
      · exact Yl.no
    | block id x =>
      simp only [dstOk] at hd
      refine Yl.bind (α := AX × OS) (β := AX × OS) (F := fun K => ev P sm f x s m nx pc fun e s m nx pc => K (e, ⟨s, m, nx, pc⟩)) (G := fun r K => match r.1 with
        | .exit i => match Nat.beq i id with
          | true => K (.normal, r.2)
          | false => K (.exit i, r.2)
        | e => K (e, r.2)) (ih n x s m nx pc hs hd) fun r hr => ?_
      obtain ⟨e, o⟩ := r
      have go : ∀ (e' : AX), (∀ (Q : Exit → Act → World → Prop) e1 a w, exIs e e1 → (∀ e2, exIs e' e2 → Q e2 a w) → Exit.inBlock id Q e1 a w) → EvR P ρ n (.block id x) s m nx (e', o) := fun e' h =>
        ⟨hr.pc, hr.le, hr.new, fun a w θ hA hfr => wp_block (wp_mono (hr.run a w θ hA hfr).wp fun e1 a w ⟨he, hp⟩ => h _ e1 a w he fun e2 he2 => ⟨he2, hp⟩)⟩
      cases e with
      | normal => exact Yl.pure (α := AX × OS) _ (go .normal fun Q e1 a w h1 h2 => by cases h1; exact h2 _ rfl)
      | ret => exact Yl.pure (α := AX × OS) _ (go .ret fun Q e1 a w h1 h2 => by cases h1; exact h2 _ rfl)
      | exit i =>
        show Yl (fun K => match Nat.beq i id with
          | true => K (AX.normal, o)
          | false => K (.exit i, o)) _
        split
        · rename_i hb
          refine Yl.pure (α := AX × OS) _ (go .normal fun Q e1 a w h1 h2 => ?_)
          cases h1
          simp only [Exit.inBlock]
          rw [if_pos (Nat.eq_of_beq_eq_true hb)]
          exact h2 _ rfl
        · rename_i hb
          refine Yl.pure (α := AX × OS) _ (go (.exit i) fun Q e1 a w h1 h2 => ?_)
          cases h1
          simp only [Exit.inBlock]
          rw [if_neg (Nat.ne_of_beq_eq_false hb)]
          exact h2 _ rfl
    | loop x =>
      refine Yl.bind (α := AX × OS) (β := AX × OS) (F := fun K => ev P sm f x s m nx pc fun e s m nx pc => K (e, ⟨s, m, nx, pc⟩)) (G := fun r K => match r.1 with
        | .normal => ev P sm f (.loop x) r.2.s r.2.m r.2.nx r.2.pc fun e s m nx pc => K (e, ⟨s, m, nx, pc⟩)
        | e => K (e, r.2)) (ih n x s m nx pc hs hd) fun r hr => ?_
      obtain ⟨e, o⟩ := r
      cases e with
      | normal => exact (ih n (.loop x) o.s o.m o.nx o.pc hr.pc hd).mono fun r2 hr2 => hr.join hr2 fun a w Q h => loop_step h
      | exit i => exact Yl.pure (α := AX × OS) _ (hr.cut (by simp) fun a w Q Q' h h1 h2 => loop_step (wp_mono h (then_cut (by simp) h1 h2)))
      | ret => exact Yl.pure (α := AX × OS) _ (hr.cut (by simp) fun a w Q Q' h h1 h2 => loop_step (wp_mono h (then_cut (by simp) h1 h2)))
    | _ => exact Yl.no
/-- a function that the executor answers, of whatever arguments -/
theorem callBy_ok (hm : P.follows .mixedOrders = true) {sm : SumT} (hsm : SumOk P ρ sm) (fuel : Nat) : CallSp P ρ (callBy P sm (ev P sm fuel)) := callBy_yl hsm (ev_yl hm hsm fuel)
end
end X
end Go.Proofs.YtdbchpoaoghgpaaGreatDoor

set_option linter.unusedSimpArgs false
set_option linter.unusedVariables false
namespace Go.Proofs.YtdbchpoaoghgpaaGreatDoor
namespace X
open Go.RowKit B

def findL : List (Nat × Lin) → Nat → Option Lin
  | [], _ => none
  | (j, e) :: l, i => match Nat.beq j i with
    | true => some e
    | false => findL l i
def lookL (σ : List (Nat × Lin)) (i : Nat) : Lin := match Nat.beq (Nat.mod i 2) 0 with
  | true => match findL σ i with
    | some e => e
    | none => .mk 0 [(i, 1)]
  | false => .mk 0 [(i, 1)]
def substT (σ : List (Nat × Lin)) : List (Nat × Int) → Lin
  | [] => .mk 0 []
  | (i, a) :: l => ((lookL σ i).mul a).add (substT σ l)
def substL (σ : List (Nat × Lin)) : Lin → Lin
  | .mk c l => (Lin.mk c []).add (substT σ l)
def plainT : List (Nat × Int) → Bool
  | [] => true
  | (i, _) :: l => !(Nat.beq (Nat.mod i 4) 3) && plainT l
def plainL : Lin → Bool
  | .mk _ l => plainT l
def updR (ρ : Rho) (σ : List (Nat × Lin)) : Rho := ⟨fun j => match findL σ (2 * j) with | some e => e.den ρ | none => ρ.v j, ρ.s⟩
theorem lookL_den {ρ : Rho} {σ : List (Nat × Lin)} {i : Nat} (h : i % 4 ≠ 3) : (lookL σ i).den ρ = (updR ρ σ).at i := by
  unfold lookL
  split
  · rename_i h2
    have h2 : i % 2 = 0 := Nat.eq_of_beq_eq_true h2
    obtain ⟨j, rfl⟩ : ∃ j, i = 2 * j := ⟨i / 2, by omega⟩
    rw [Rho.at_v]
    simp only [updR]
    split
    · rfl
    · simp [Lin.den, dts, Rho.at_v]
  · rename_i h2
    have h2 : i % 2 ≠ 0 := Nat.ne_of_beq_eq_false h2
    obtain ⟨j, rfl⟩ : ∃ j, i = 4 * j + 1 := ⟨i / 4, by omega⟩
    simp [Lin.den, dts, Rho.at_l, updR]
theorem substT_den {ρ : Rho} {σ : List (Nat × Lin)} : ∀ {l : List (Nat × Int)}, plainT l = true → (substT σ l).den ρ = dts (updR ρ σ) l
  | [], _ => by simp [substT, Lin.den, dts]
  | (i, a) :: l, h => by
    simp only [plainT, Bool.and_eq_true, Bool.not_eq_true'] at h
    have h1 : i % 4 ≠ 3 := Nat.ne_of_beq_eq_false h.1
    rw [substT, add_den, mul_den, lookL_den h1, substT_den h.2, dts]
theorem substL_den {ρ : Rho} {σ : List (Nat × Lin)} {e : Lin} (h : plainL e = true) : (substL σ e).den ρ = e.den (updR ρ σ) := by
  cases e with
  | mk c l =>
    rw [substL, add_den, substT_den h, const_den]
    rfl

/-! ### Values told anew -/
def capEq : Cap → Cap → Bool
  | .k a, .k b => Nat.beq a b
  | .q a, .q b => Nat.beq a b
  | _, _ => false
theorem capEq_ok {a b : Cap} (h : capEq a b = true) : a = b := by
  cases a <;> cases b <;> simp [capEq] at h <;> rw [h]
mutual
def backV (σ : List (Nat × Lin)) (lo : Nat) : SV → SV → Bool
  | .i k p, .i j q => ikEq k j && eqI p q
  | .x k e, .x j e' => ikEq k j && plainL e && eqLin (substL σ e) e'
  | .x k e, .i j n => ikEq k j && plainL e && eqLin (substL σ e) (.mk n [])
  | .b a, .b b => a == b
  | .s a, .s b => eqStr a b
  | .p t i, .p u j => Nat.blt t lo && Nat.beq t u && Nat.beq i j
  | .np, .np => true
  | .sl t o n c, .sl t' o' n' c' => Nat.blt t lo && Nat.beq t t' && Nat.beq o o' && Nat.beq n n' && capEq c c'
  | .sb t l, .sb t' l' => Nat.blt t lo && Nat.beq t t' && eqStr l l'
  | .ns, .ns => true
  | .ag l, .ag m => backVs σ lo l m
  | .tu l, .tu m => backVs σ lo l m
  | .fn f a b, .fn g c d => Nat.beq f g && backVs σ lo a c && backVs σ lo b d
  | .nf, .nf => true
  | .ni, .ni => true
  | .nm, .nm => true
  | .mp t, .mp u => Nat.blt t lo && Nat.beq t u
  | .su t, .su u => Nat.blt t lo && Nat.beq t u
  | .un, .un => true
  | _, _ => false
def backVs (σ : List (Nat × Lin)) (lo : Nat) : List SV → List SV → Bool
  | [], [] => true
  | a :: l, b :: m => backV σ lo a b && backVs σ lo l m
  | _, _ => false
end
def backEs (σ : List (Nat × Lin)) (lo : Nat) : List (SV × SV × Nat) → List (SV × SV × Nat) → Bool
  | [], [] => true
  | (a, b, n) :: l, (c, d, k) :: m => backV σ lo a c && backV σ lo b d && Nat.beq n k && backEs σ lo l m
  | _, _ => false
def backB (σ : List (Nat × Lin)) (lo : Nat) : Blk → Blk → Bool
  | .ce t a x, .ce u b y => Nat.beq t u && backVs σ lo a b && (x == y)
  | .bt t a, .bt u b => Nat.beq t u && eqStr a b
  | .mp a c, .mp b d => backEs σ lo a b && Nat.beq c d
  | .ob t a, .ob u b => Nat.beq t u && eqStr a b
  | _, _ => false
def allT {α : Type} (p : Nat → α → Bool) : Tr α → (Nat → Nat) → Bool
  | .lf, _ => true
  | .nd l v r, g => (match v with | some x => p (g 0) x | none => true) && allT p l (fun k => g (2 * k + 1)) && allT p r (fun k => g (2 * k + 2))
theorem allT_ok {α : Type} {p : Nat → α → Bool} : ∀ {t : Tr α} {g : Nat → Nat}, allT p t g = true → ∀ j x, t.get j = some x → p (g j) x = true
  | .lf, g, _, j, x, h => by simp [Tr.get] at h
  | .nd l v r, g, hp, j, x, h => by
    simp only [allT, Bool.and_eq_true] at hp
    obtain ⟨⟨h1, h2⟩, h3⟩ := hp
    cases j with
    | zero =>
      simp only [Tr.get] at h
      subst h; exact h1
    | succ k =>
      simp only [Tr.get] at h
      split at h
      · rename_i hk
        have hk : k % 2 = 0 := Nat.eq_of_beq_eq_true hk
        have := allT_ok h2 _ x h
        rwa [show 2 * Nat.div k 2 + 1 = k + 1 by show 2 * (k / 2) + 1 = k + 1; omega] at this
      · rename_i hk
        have hk : k % 2 ≠ 0 := Nat.ne_of_beq_eq_false hk
        have := allT_ok h3 _ x h
        rwa [show 2 * Nat.div k 2 + 2 = k + 1 by show 2 * (k / 2) + 2 = k + 1; omega] at this
section
variable {ρ : Rho} {σ : List (Nat × Lin)} {lo : Nat} {θ θr : Th}
theorem denS_upd {l : Str} : denS (updR ρ σ) l = denS ρ l := by
  unfold denS
  rfl
theorem map_same {α β : Type} {a b : Option α} {f : α → β} {u : β} (h : a = b) (k : b.map f = some u) : a.map f = some u := h ▸ k
mutual
theorem backV_ok (hθ : ∀ t, t < lo → θr t = θ t) : ∀ {v v' : SV} {u : Value}, backV σ lo v v' = true → den ρ θ v' = some u → den (updR ρ σ) θr v = some u
  | v, v', u, h, hu => by
    cases v <;> cases v' <;> first
      | (simp only [backV] at h; done)
      | (simp [backV] at h; done)
      | exact hu
      | skip
    all_goals simp only [backV, Bool.and_eq_true, Nat.beq_eq, Nat.blt_eq, eqI_iff, ikEq_iff, beq_iff_eq] at h
    · obtain ⟨rfl, rfl⟩ := h; exact hu
    · obtain ⟨⟨rfl, h1⟩, h2⟩ := h
      have := substL_den (ρ := ρ) (σ := σ) h1
      rw [eqLin_ok h2, const_den] at this
      simp only [den] at hu ⊢
      rw [← this]; exact hu
    · obtain ⟨⟨rfl, h1⟩, h2⟩ := h
      have := substL_den (ρ := ρ) (σ := σ) h1
      rw [eqLin_ok h2] at this
      simp only [den] at hu ⊢
      rw [← this]; exact hu
    · subst h; exact hu
    · have := eqStr_ok h
      subst this
      simp only [den] at hu ⊢
      rw [denS_upd]; exact hu
    · obtain ⟨⟨h1, rfl⟩, rfl⟩ := h
      exact map_same (hθ _ h1) hu
    · obtain ⟨⟨⟨⟨h1, rfl⟩, rfl⟩, rfl⟩, h2⟩ := h
      have := capEq_ok h2
      subst this
      exact map_same (hθ _ h1) hu
    · obtain ⟨⟨h1, rfl⟩, h2⟩ := h
      have := eqStr_ok h2
      subst this
      simp only [den] at hu ⊢
      rw [denS_upd]
      exact map_same (hθ _ h1) hu
    · obtain ⟨h1, rfl⟩ := h
      exact map_same (hθ _ h1) hu
    · simp only [den, Option.map_eq_some_iff] at hu ⊢
      obtain ⟨us, h1, h2⟩ := hu
      exact ⟨us, backVs_ok hθ h h1, h2⟩
    · simp only [den, Option.map_eq_some_iff] at hu ⊢
      obtain ⟨us, h1, h2⟩ := hu
      exact ⟨us, backVs_ok hθ h h1, h2⟩
    · obtain ⟨⟨rfl, h1⟩, h2⟩ := h
      simp only [den, Option.bind_eq_some_iff, Option.map_eq_some_iff] at hu ⊢
      obtain ⟨a, e1, b, e2, e3⟩ := hu
      exact ⟨a, backVs_ok hθ h1 e1, b, backVs_ok hθ h2 e2, e3⟩
    · obtain ⟨h1, rfl⟩ := h
      exact map_same (hθ _ h1) hu
theorem backVs_ok (hθ : ∀ t, t < lo → θr t = θ t) : ∀ {l l' : List SV} {us : List Value}, backVs σ lo l l' = true → dens ρ θ l' = some us → dens (updR ρ σ) θr l = some us
  | [], [], us, _, h => h
  | a :: l, b :: m, us, h, hu => by
    simp only [backVs, Bool.and_eq_true] at h
    simp only [dens, Option.bind_eq_some_iff, Option.map_eq_some_iff] at hu ⊢
    obtain ⟨u, h1, us', h2, h3⟩ := hu
    exact ⟨u, backV_ok hθ h.1 h1, us', backVs_ok hθ h.2 h2, h3⟩
  | [], _ :: _, us, h, _ => by cases h
  | _ :: _, [], us, h, _ => by cases h
end
theorem backEs_ok (hθ : ∀ t, t < lo → θr t = θ t) : ∀ {l l' : List (SV × SV × Nat)} {us : List MapEntry}, backEs σ lo l l' = true → denE ρ θ l' = some us → denE (updR ρ σ) θr l = some us
  | [], [], us, _, h => h
  | (a, b, n) :: l, (c, d, k) :: m, us, h, hu => by
    simp only [backEs, Bool.and_eq_true, Nat.beq_eq] at h
    obtain ⟨⟨⟨h1, h2⟩, rfl⟩, h3⟩ := h
    simp only [denE, Option.bind_eq_some_iff, Option.map_eq_some_iff] at hu ⊢
    obtain ⟨x, e1, y, e2, es, e3, e4⟩ := hu
    exact ⟨x, backV_ok hθ h1 e1, y, backV_ok hθ h2 e2, es, backEs_ok hθ h3 e3, e4⟩
  | [], _ :: _, us, h, _ => by cases h
  | _ :: _, [], us, h, _ => by cases h
theorem backB_ok (hθ : ∀ t, t < lo → θr t = θ t) {t : Nat} (ht : t < lo) {w : World} {b b' : Blk} (h : backB σ lo b b' = true) (hb : HoldsB ρ θ w t b') : HoldsB (updR ρ σ) θr w t b := by
  cases b <;> cases b' <;> first | (simp [backB] at h; done) | skip
  all_goals simp only [backB, Bool.and_eq_true, Nat.beq_eq, beq_iff_eq] at h
  · obtain ⟨⟨rfl, h1⟩, rfl⟩ := h
    obtain ⟨g, c, vs, arr, rest, f1, f2, f3, f4, f5, f6, f7⟩ := hb
    exact ⟨g, c, vs, arr, rest, by rw [hθ t ht]; exact f1, f2, f3, backVs_ok hθ h1 f4, f5, f6, f7⟩
  · obtain ⟨rfl, h1⟩ := h
    have := eqStr_ok h1
    subst this
    obtain ⟨g, c, arr, rest, f1, f2, f3, f4⟩ := hb
    exact ⟨g, c, arr, rest, by rw [hθ t ht]; exact f1, f2, f3, by rw [denS_upd]; exact f4⟩
  · obtain ⟨h1, rfl⟩ := h
    obtain ⟨g, c, arr, f1, f2, f3⟩ := hb
    exact ⟨g, c, arr, by rw [hθ t ht]; exact f1, f2, backEs_ok hθ h1 f3⟩
  · obtain ⟨rfl, h1⟩ := h
    have := eqStr_ok h1
    subst this
    obtain ⟨g, c, arr, rest, ss, f1, f2, f3, f4⟩ := hb
    exact ⟨g, c, arr, rest, ss, by rw [hθ t ht]; exact f1, f2, f3, by rw [denS_upd]; exact f4⟩
end

/-! ### The rule -/
def backPC (σ : List (Nat × Lin)) (pc' : PC) : PC → Bool
  | [] => true
  | e :: l => plainL e && proves pc' (substL σ e) && backPC σ pc' l
def backAt (σ : List (Nat × Lin)) (lo : Nat) (s : Tr SV) (m : Mem) (pc : PC) (s' : Tr SV) (m' : Mem) (pc' : PC) : Bool :=
  allT (fun k v => match s'.get k with | some v' => backV σ lo v v' | none => false) s id &&
  allT (fun t b => Nat.blt t lo && match m'.get t with | some b' => backB σ lo b b' | none => false) m id &&
  backPC σ pc' pc
def backMu (σ : List (Nat × Lin)) (μ : Lin) (pc' : PC) : Bool := plainL μ && proves pc' (μ.add (.mk (-1) [])) && proves pc' (μ.sub ((substL σ μ).add (.mk 1 [])))
def backOk (σ : List (Nat × Lin)) (lo : Nat) (μ : Lin) (s : Tr SV) (m : Mem) (pc : PC) (s' : Tr SV) (m' : Mem) (pc' : PC) : Bool := backAt σ lo s m pc s' m' pc' && backMu σ μ pc'
theorem backPC_ok {ρ : Rho} {σ : List (Nat × Lin)} {pc' : PC} (hs : Sat ρ pc') : ∀ {pc : PC}, backPC σ pc' pc = true → Sat (updR ρ σ) pc
  | [], _, e, he => by cases he
  | x :: l, h, e, he => by
    simp only [backPC, Bool.and_eq_true] at h
    rcases List.mem_cons.1 he with rfl | he
    · rw [← substL_den h.1.1]; exact proves_ok h.1.2 hs
    · exact backPC_ok hs h.2 e he
def lessT (θ : Th) (lo hi : Nat) : Th := fun t => if lo ≤ t ∧ t < hi then none else θ t
section
variable {P : Program} {ρ : Rho} {σ : List (Nat × Lin)} {lo : Nat} {s s' : Tr SV} {m m' : Mem} {pc pc' : PC} {μ : Lin} {n : Nat}
structure BackR (ρ : Rho) (σ : List (Nat × Lin)) (n lo : Nat) (s : Tr SV) (m : Mem) (pc : PC) (s' : Tr SV) (m' : Mem) : Prop where
  pc : Sat (updR ρ σ) pc
  at_ : ∀ (hi : Nat) (a : Act) (w : World) (θ : Th), At ρ n s' m' a w θ → At (updR ρ σ) n s m a w (lessT θ lo hi)
  sub : ∀ t, m.get t ≠ none → t < lo ∧ m'.get t ≠ none
theorem back_mu (hs : Sat ρ pc') (h : backMu σ μ pc' = true) : 1 ≤ μ.den ρ ∧ μ.den (updR ρ σ) < μ.den ρ := by
  simp only [backMu, Bool.and_eq_true] at h
  obtain ⟨⟨h4, h5⟩, h6⟩ := h
  have d5 := proves_ok h5 hs
  have d6 := proves_ok h6 hs
  rw [add_den, const_den] at d5
  rw [sub_den, add_den, const_den, substL_den h4] at d6
  omega
theorem back_ok (hs : Sat ρ pc') (h : backAt σ lo s m pc s' m' pc' = true) : BackR ρ σ n lo s m pc s' m' := by
  simp only [backAt, Bool.and_eq_true] at h
  obtain ⟨⟨h1, h2⟩, h3⟩ := h
  have k2 := allT_ok h2
  have memk : ∀ t b, m.get t = some b → t < lo ∧ ∃ b', m'.get t = some b' ∧ backB σ lo b b' = true := fun t b hb => by
    have := k2 t b hb
    simp only [id, Bool.and_eq_true, Nat.blt_eq] at this
    refine ⟨this.1, ?_⟩
    have h7 := this.2
    split at h7
    · rename_i b' hb'; exact ⟨b', hb', h7⟩
    · cases h7
  have ne : ∀ t, m.get t ≠ none → t < lo ∧ m'.get t ≠ none := fun t ht => by
    cases hb : m.get t with
    | none => exact absurd hb ht
    | some b => obtain ⟨q1, b', q2, _⟩ := memk t b hb; exact ⟨q1, by rw [q2]; simp⟩
  refine ⟨backPC_ok hs h3, fun hi a w θ hA => ?_, ne⟩
  have hθ : ∀ t, t < lo → lessT θ lo hi t = θ t := fun t ht => if_neg (by omega)
  refine ⟨hA.defers, hA.size, fun k sv hk => ?_, fun t b hb => ?_, fun x y g c c' hx hy e1 e2 => ?_⟩
  · have := allT_ok h1 k sv hk
    simp only [id] at this
    split at this
    · rename_i v' hv'
      exact backV_ok hθ this (hA.slot k v' hv')
    · cases this
  · obtain ⟨q1, b', q2, q3⟩ := memk t b hb
    exact backB_ok hθ q1 q3 (hA.mem.holds t b' q2)
  · obtain ⟨l1, n1⟩ := ne x hx
    obtain ⟨l2, n2⟩ := ne y hy
    rw [hθ x l1] at e1
    rw [hθ y l2] at e2
    exact hA.mem.inj x y g c c' n1 n2 e1 e2
theorem SP.trans2 {ρ1 ρ2 : Rho} {nx nx1 nx2 : Nat} {θ θ' θ2 : Th} {R R' R2 : Nat → Option Blk} {w w' w2 : World} (h : SP ρ1 nx nx1 θ R w θ' R' w') (k : SP ρ2 nx1 nx2 θ' R' w' θ2 R2 w2) (h1 : nx ≤ nx1) (h2 : nx1 ≤ nx2) : SP ρ2 nx nx2 θ R w θ2 R2 w2 := by
  refine ⟨h.le.trans k.le, fun t ht => ?_, k.mem, ?_, fun g hg => ?_⟩
  · rcases k.new t ht with a | a
    · rcases h.new t a with b | b
      · exact .inl b
      · exact .inr ⟨b.1, by omega⟩
    · exact .inr ⟨by omega, a.2⟩
  · refine ⟨k.ext.os.trans h.ext.os, k.ext.tape.trans h.ext.tape, k.ext.output.trans h.ext.output, Nat.le_trans h.ext.size k.ext.size, fun i hi hn => ?_⟩
    rw [k.ext.block i (Nat.lt_of_lt_of_le hi h.ext.size) fun hb => ?_, h.ext.block i hi hn]
    rcases h.own i hb with a | a
    · exact hn a
    · omega
  · rcases k.own g hg with a | a
    · exact h.own g a
    · exact .inr (Nat.le_trans h.ext.size a)
/-- told anew, what lies from lo on is forgotten -/
theorem SP.back {hi nx : Nat} {θ θ1 : Th} {w w' : World} {M0 : Nat → Option Blk} (hb : BackR ρ σ n lo s m pc s' m') {a' : Act} (hA : At ρ n s' m' a' w' θ1) (hsp : SP ρ nx hi θ M0 w θ1 m'.get w') (hlo : nx ≤ lo) (hfr : ∀ t, nx ≤ t → t < hi → θ t = none) : SP (updR ρ σ) nx lo θ M0 w (lessT θ1 lo hi) m.get w' := by
  have hA2 := hb.at_ hi a' w' θ1 hA
  refine ⟨fun t x hx => ?_, fun t ht => ?_, hA2.mem, hsp.ext, fun g hg => ?_⟩
  · unfold lessT
    split
    · rename_i q; rw [hfr t (by omega) q.2] at hx; cases hx
    · exact hsp.le t x hx
  · unfold lessT at ht
    split at ht
    · exact absurd rfl ht
    · rename_i q
      rcases hsp.new t ht with z | z
      · exact .inl z
      · refine .inr ⟨z.1, ?_⟩
        rcases Nat.lt_or_ge t lo with l | l
        · exact l
        · exact absurd ⟨l, z.2⟩ q
  · obtain ⟨t, c, q1, q2⟩ := hg
    obtain ⟨l1, n1⟩ := hb.sub t q1
    unfold lessT at q2
    rw [if_neg (by omega)] at q2
    exact hsp.own g ⟨t, c, n1, q2⟩
/-- what a loop comes to -/
structure LoopR (P : Program) (ρ : Rho) (n : Nat) (body : Code) (s : Tr SV) (m : Mem) (lo hi : Nat) (ρ' : Rho) (e : AX) (o : OS) : Prop where
  ne : e ≠ .normal
  pc : Sat ρ' o.pc
  str : ρ'.s = ρ.s
  le : lo ≤ o.nx
  run : ∀ (a : Act) (w : World) (θ : Th), At ρ n s m a w θ → (∀ t, lo ≤ t → t < hi → θ t = none) → LoopWp P body (fun e' a' w' => exIs e e' ∧ ∃ θ', At ρ' n o.s o.m a' w' θ' ∧ SP ρ' lo o.nx θ m.get w θ' o.m.get w') a w
/-- THE RULE for loops -/
theorem loop_rule (hm : P.follows .mixedOrders = true) {sm : SumT} (hsm : ∀ ρ, SumOk P ρ sm) {fuel hi : Nat} {body : Code} (σf : Tr SV → Mem → List (Nat × Lin)) {Kx : AX → Tr SV → Mem → Nat → PC → Bool} (hd : dstOk n body = true) (hlo : lo ≤ hi)
    (hk : ev P sm fuel body s m lo pc (fun e s' m' nx' pc' => Nat.ble nx' hi && match e with
      | .normal => backOk (σf s' m') lo μ s m pc s' m' pc'
      | e => Kx e s' m' nx' pc') = true) : ∀ (k : Nat) (ρ : Rho), Sat ρ pc → (μ.den ρ).toNat = k → ∃ ρ' e o, Kx e o.s o.m o.nx o.pc = true ∧ LoopR P ρ n body s m lo hi ρ' e o := by
  intro k
  induction k using Nat.strongRecOn with
  | _ k ih =>
    intro ρ hs hμ
    obtain ⟨⟨e, o⟩, hr, hk', _⟩ := ev_yl hm (hsm ρ) fuel n body s m lo pc hs hd (fun r => Nat.ble r.2.nx hi && match r.1 with
      | .normal => backOk (σf r.2.s r.2.m) lo μ s m pc r.2.s r.2.m r.2.pc
      | e => Kx e r.2.s r.2.m r.2.nx r.2.pc) hk
    simp only [Bool.and_eq_true, Nat.ble_eq] at hk'
    obtain ⟨hle, hk'⟩ := hk'
    have cut : e ≠ .normal → Kx e o.s o.m o.nx o.pc = true → ∃ ρ' e o, Kx e o.s o.m o.nx o.pc = true ∧ LoopR P ρ n body s m lo hi ρ' e o := fun hne hkx => by
      refine ⟨ρ, e, o, hkx, hne, hr.pc, rfl, hr.le, fun a w θ hA hfr => ?_⟩
      refine loop_step (wp_mono (hr.run a w θ hA fun t q1 q2 => hfr t q1 (by simp only at q2; omega)).wp (then_cut (e := e) hne (fun e' a' w' he h => ?_) fun e' a' w' h => h.1))
      obtain ⟨_, θ', h1, h2⟩ := h
      exact ⟨he, θ', h1, h2⟩
    cases e with
    | exit i => exact cut (by simp) hk'
    | ret => exact cut (by simp) hk'
    | normal =>
      simp only [backOk, Bool.and_eq_true] at hk'
      have hmu := back_mu hr.pc hk'.2
      have hb := back_ok (n := n) hr.pc hk'.1
      obtain ⟨ρ', e', o', h1, h2⟩ := ih _ (by omega) (updR ρ (σf o.s o.m)) hb.pc rfl
      refine ⟨ρ', e', o', h1, h2.ne, h2.pc, h2.str, h2.le, fun a w θ hA hfr => ?_⟩
      refine loop_step (wp_mono (hr.run a w θ hA fun t q1 q2 => hfr t q1 (by simp only at q2; omega)).wp fun e a' w' hp => ?_)
      obtain ⟨he, θ1, hA1, hsp⟩ := hp
      cases he
      have hA2 := hb.at_ hi a' w' θ1 hA1
      have hsp1 := SP.back hb hA1 (hsp.wk (Nat.le_refl _) hle) (Nat.le_refl _) hfr
      refine (h2.run a' w' _ hA2 fun t q1 q2 => if_pos ⟨q1, q2⟩).mono fun e2 a2 w2 ⟨he2, θ2, hA3, hsp2⟩ => ?_
      exact ⟨he2, θ2, hA3, hsp1.trans2 hsp2 (Nat.le_refl _) h2.le⟩
end
end X
end Go.Proofs.YtdbchpoaoghgpaaGreatDoor

set_option linter.unusedSimpArgs false
set_option linter.unusedVariables false
namespace Go.Proofs.YtdbchpoaoghgpaaGreatDoor
namespace X
open Go.RowKit B

/-- code with a hole -/
inductive Ctx where
  | hole
  | l (t : Ctx) (c : Code)
  | r (c : Code) (t : Ctx)
def plug : Ctx → Code → Code
  | .hole, h => h
  | .l t c, h => .seq (plug t h) c
  | .r c t, h => .seq c (plug t h)
def Ctx.pre : Ctx → List Code
  | .hole => []
  | .l t _ => t.pre
  | .r c t => c :: t.pre
def Ctx.post : Ctx → List Code
  | .hole => []
  | .l t c => t.post ++ [c]
  | .r _ t => t.post
def preWp (P : Program) (Q : Exit → Act → World → Prop) (K : Act → World → Prop) : List Code → Act → World → Prop
  | [], a, w => K a w
  | c :: l, a, w => c.wp P (Exit.then (preWp P Q K l) Q) a w
def tailWp (P : Program) (Q : Exit → Act → World → Prop) : List Code → Act → World → Prop
  | [], a, w => Q .normal a w
  | c :: l, a, w => c.wp P (Exit.then (tailWp P Q l) Q) a w
theorem then_mono {K K' : Act → World → Prop} {Q Q' : Exit → Act → World → Prop} (h1 : ∀ a w, K a w → K' a w) (h2 : ∀ e a w, e ≠ .normal → Q e a w → Q' e a w) : ∀ e a w, Exit.then K Q e a w → Exit.then K' Q' e a w := fun e a w h => by
  cases e <;> first | exact h1 _ _ h | exact h2 _ _ _ (by simp) h
theorem preWp_mono {P : Program} {Q Q' : Exit → Act → World → Prop} {K K' : Act → World → Prop} (hk : ∀ a w, K a w → K' a w) (hq : ∀ e a w, e ≠ .normal → Q e a w → Q' e a w) : ∀ {l : List Code} {a : Act} {w : World}, preWp P Q K l a w → preWp P Q' K' l a w
  | [], a, w, h => hk _ _ h
  | c :: l, a, w, h => wp_mono h (then_mono (fun _ _ h => preWp_mono hk hq (l := l) h) hq)
theorem tailWp_app {P : Program} {Q : Exit → Act → World → Prop} {c : Code} : ∀ {l : List Code} {a : Act} {w : World}, tailWp P Q (l ++ [c]) a w → tailWp P (Exit.then (c.wp P Q) Q) l a w
  | [], a, w, h => wp_mono h fun e a w h => by cases e <;> exact h
  | d :: l, a, w, h => wp_mono h (then_mono (fun _ _ h => tailWp_app (l := l) h) fun e a w he h => by cases e <;> first | exact absurd rfl he | exact h)
theorem plug_wp {P : Program} {h : Code} : ∀ {t : Ctx} {Q : Exit → Act → World → Prop} {a : Act} {w : World}, preWp P Q (fun a w => h.wp P (Exit.then (tailWp P Q t.post) Q) a w) t.pre a w → (plug t h).wp P Q a w
  | .hole, Q, a, w, hp => wp_mono (Q := Exit.then (tailWp P Q []) Q) hp fun e a w h => by cases e <;> exact h
  | .r c t, Q, a, w, hp => wp_seq (wp_mono hp (then_mono (fun _ _ h => plug_wp (t := t) h) fun _ _ _ _ h => h))
  | .l t c, Q, a, w, hp => by
    refine wp_seq (plug_wp (t := t) (preWp_mono (fun a w hk => ?_) (fun e a w he h => ?_) hp))
    · refine wp_mono hk (then_mono (fun _ _ h => tailWp_app h) fun e a w he h => ?_)
      cases e <;> first | exact absurd rfl he | exact h
    · cases e <;> first | exact absurd rfl he | exact h
def evs (P : Program) (sm : SumT) (fuel : Nat) : List Code → Tr SV → Mem → Nat → PC → KR → Bool
  | [], s, m, nx, pc, K => K s m nx pc
  | c :: l, s, m, nx, pc, K => ev P sm fuel c s m nx pc fun e s m nx pc => match e with
    | .normal => evs P sm fuel l s m nx pc K
    | _ => false
def evT (P : Program) (sm : SumT) (fuel : Nat) : List Code → Tr SV → Mem → Nat → PC → KC → Bool
  | [], s, m, nx, pc, K => K .normal s m nx pc
  | c :: l, s, m, nx, pc, K => ev P sm fuel c s m nx pc fun e s m nx pc => match e with
    | .normal => evT P sm fuel l s m nx pc K
    | e => K e s m nx pc
def dstOks (n : Nat) : List Code → Bool
  | [] => true
  | c :: l => dstOk n c && dstOks n l
section
variable {P : Program} {ρ : Rho} {n : Nat}
structure EvsR (P : Program) (ρ : Rho) (n : Nat) (l : List Code) (s : Tr SV) (m : Mem) (nx : Nat) (o : OS) : Prop where
  pc : Sat ρ o.pc
  le : nx ≤ o.nx
  run : ∀ (a : Act) (w : World) (θ : Th) (K : Act → World → Prop) (Q : Exit → Act → World → Prop), At ρ n s m a w θ → (∀ t, nx ≤ t → t < o.nx → θ t = none) →
    (∀ a' w' θ', At ρ n o.s o.m a' w' θ' → SP ρ nx o.nx θ m.get w θ' o.m.get w' → K a' w') → preWp P Q K l a w
theorem evs_yl (hm : P.follows .mixedOrders = true) {sm : SumT} (hsm : SumOk P ρ sm) {fuel : Nat} : ∀ {l : List Code} {s : Tr SV} {m : Mem} {nx : Nat} {pc : PC}, Sat ρ pc → dstOks n l = true → Yl (fun K => evs P sm fuel l s m nx pc fun s m nx pc => K ⟨s, m, nx, pc⟩) (EvsR P ρ n l s m nx)
  | [], s, m, nx, pc, hs, _ => Yl.pure (⟨s, m, nx, pc⟩ : OS) ⟨hs, Nat.le_refl _, fun a w θ k Q hA _ h => h a w θ hA (SP.refl hA.mem)⟩
  | c :: l, s, m, nx, pc, hs, hd => by
    simp only [dstOks, Bool.and_eq_true] at hd
    refine Yl.bind (α := AX × OS) (β := OS) (F := fun K => ev P sm fuel c s m nx pc fun e s m nx pc => K (e, ⟨s, m, nx, pc⟩)) (G := fun r K => match r.1 with
      | .normal => evs P sm fuel l r.2.s r.2.m r.2.nx r.2.pc fun s m nx pc => K ⟨s, m, nx, pc⟩
      | _ => false) (ev_yl hm hsm fuel n c s m nx pc hs hd.1) fun r hr => ?_
    obtain ⟨e, o⟩ := r
    cases e with
    | exit i => exact Yl.no
    | ret => exact Yl.no
    | normal =>
      refine (evs_yl hm hsm (l := l) hr.pc hd.2).mono fun o2 h2 => ?_
      have l1 : nx ≤ o.nx := hr.le
      have l2 := h2.le
      refine ⟨h2.pc, Nat.le_trans l1 l2, fun a w θ k Q hA hfr h => ?_⟩
      refine wp_mono (hr.run a w θ hA fun t q1 q2 => hfr t q1 (Nat.lt_of_lt_of_le q2 l2)).wp fun e a' w' hp => ?_
      obtain ⟨he, θ1, hA1, hsp⟩ := hp
      cases he
      refine h2.run a' w' θ1 k Q hA1 (fun t q1 q2 => ?_) fun a2 w2 θ2 hA2 hsp2 => h a2 w2 θ2 hA2 (hsp.trans hsp2 l1 l2)
      cases hb : θ1 t with
      | none => rfl
      | some u =>
        exfalso
        rcases hsp.new t (by rw [hb]; simp) with q | q
        · exact q (hfr t (Nat.le_trans l1 q1) q2)
        · exact Nat.lt_irrefl _ (Nat.lt_of_lt_of_le q.2 q1)

structure EvTR (P : Program) (ρ : Rho) (n : Nat) (l : List Code) (s : Tr SV) (m : Mem) (nx : Nat) (r : AX × OS) : Prop where
  pc : Sat ρ r.2.pc
  le : nx ≤ r.2.nx
  run : ∀ (a : Act) (w : World) (θ : Th) (Q : Exit → Act → World → Prop), At ρ n s m a w θ → (∀ t, nx ≤ t → t < r.2.nx → θ t = none) →
    (∀ e a' w', EPost ρ n m nx w θ r e a' w' → Q e a' w') → tailWp P Q l a w
theorem evT_yl (hm : P.follows .mixedOrders = true) {sm : SumT} (hsm : SumOk P ρ sm) {fuel : Nat} : ∀ {l : List Code} {s : Tr SV} {m : Mem} {nx : Nat} {pc : PC}, Sat ρ pc → dstOks n l = true → Yl (fun K => evT P sm fuel l s m nx pc fun e s m nx pc => K (e, ⟨s, m, nx, pc⟩)) (EvTR P ρ n l s m nx)
  | [], s, m, nx, pc, hs, _ => Yl.pure ((AX.normal, ⟨s, m, nx, pc⟩) : AX × OS) ⟨hs, Nat.le_refl _, fun a w θ Q hA _ h => h _ _ _ ⟨rfl, θ, hA, SP.refl hA.mem⟩⟩
  | c :: l, s, m, nx, pc, hs, hd => by
    simp only [dstOks, Bool.and_eq_true] at hd
    refine Yl.bind (α := AX × OS) (β := AX × OS) (F := fun K => ev P sm fuel c s m nx pc fun e s m nx pc => K (e, ⟨s, m, nx, pc⟩)) (G := fun r K => match r.1 with
      | .normal => evT P sm fuel l r.2.s r.2.m r.2.nx r.2.pc fun e s m nx pc => K (e, ⟨s, m, nx, pc⟩)
      | e => K (e, r.2)) (ev_yl hm hsm fuel n c s m nx pc hs hd.1) fun r hr => ?_
    obtain ⟨e, o⟩ := r
    have cut : ∀ {e : AX}, e ≠ .normal → EvR P ρ n c s m nx (e, o) → EvTR P ρ n (c :: l) s m nx (e, o) := fun {e} hne hr =>
      ⟨hr.pc, hr.le, fun a w θ Q hA hfr h => wp_mono (hr.run a w θ hA hfr).wp (then_cut (e := e) hne (fun e' a' w' he hp => h _ _ _ hp) fun e' a' w' hp => hp.1)⟩
    cases e with
    | exit i => exact Yl.pure (α := AX × OS) _ (cut (by simp) hr)
    | ret => exact Yl.pure (α := AX × OS) _ (cut (by simp) hr)
    | normal =>
      refine (evT_yl hm hsm (l := l) hr.pc hd.2).mono fun r2 h2 => ?_
      have l1 : nx ≤ o.nx := hr.le
      have l2 := h2.le
      refine ⟨h2.pc, Nat.le_trans l1 l2, fun a w θ Q hA hfr h => ?_⟩
      refine wp_mono (hr.run a w θ hA fun t q1 q2 => hfr t q1 (Nat.lt_of_lt_of_le q2 l2)).wp fun e a' w' hp => ?_
      obtain ⟨he, θ1, hA1, hsp⟩ := hp
      cases he
      refine h2.run a' w' θ1 Q hA1 (fun t q1 q2 => ?_) fun e2 a2 w2 ⟨he2, θ2, hA2, hsp2⟩ => h e2 a2 w2 ⟨he2, θ2, hA2, hsp.trans hsp2 l1 l2⟩
      cases hb : θ1 t with
      | none => rfl
      | some u =>
        exfalso
        rcases hsp.new t (by rw [hb]; simp) with q | q
        · exact q (hfr t (Nat.le_trans l1 q1) q2)
        · exact Nat.lt_irrefl _ (Nat.lt_of_lt_of_le q.2 q1)

/-- THE RULE for such a function -/
theorem fun_loop (hm : P.follows .mixedOrders = true) {sm : SumT} (hsm : ∀ ρ, SumOk P ρ sm) {fuel lo hi b : Nat} {f : Nat} {fn : Func} {t : Ctx} {body : Code} (hf : P.funcs[f]? = some fn) (hb : fn.body = some (plug t (.block b (.loop body))))
    {args : List SV} {s : Tr SV} {m : Mem} {pc pc0 : PC} {μ : Lin} {σ0 : List (Nat × Lin)} (σf : Tr SV → Mem → List (Nat × Lin)) {Kr : List SV → PC → Bool} (hok : (Nat.ble args.length fn.ntmps && dstOks fn.ntmps t.pre && dstOk fn.ntmps body && dstOks fn.ntmps t.post && Nat.ble lo hi) = true)
    (k1 : argC args 0 .lf (fun s0 => evs P sm fuel t.pre s0 .lf 0 pc0 fun s' m' nx' pc' => Nat.beq nx' lo && backAt σ0 lo s m pc s' m' pc') = true)
    (k2 : ev P sm fuel body s m lo pc (fun e s' m' nx' pc' => Nat.ble nx' hi && match e with
      | .normal => backOk (σf s' m') lo μ s m pc s' m' pc'
      | .exit i => Nat.beq i b && evT P sm fuel t.post s' m' nx' pc' fun e s m nx pc => match e with
        | .exit _ => false
        | _ => resC P s m fn.results.toList fun vs => Kr vs pc
      | .ret => false) = true) : ∀ ρ, Sat ρ pc0 → ∃ ρ' vs pc', ρ'.s = ρ.s ∧ Kr vs pc' = true ∧ Sat ρ' pc' ∧ ∀ (w : World) (us : List Value), dens ρ (fun _ => none) args = some us → Calls P f us.toArray w (fun e w' => ∃ θ' u, e = .returned u ∧ den ρ' θ' (retV vs) = some u ∧ Ext none' w w') := by
  intro ρ hs0
  simp only [Bool.and_eq_true, Nat.ble_eq] at hok
  obtain ⟨⟨⟨⟨o1, o2⟩, o3⟩, o4⟩, o5⟩ := hok
  obtain ⟨s0, hs1, k1, _⟩ := argC_yl _ k1
  obtain ⟨oA, hA1, k1, _⟩ := evs_yl (n := fn.ntmps) hm (hsm ρ) hs0 o2 (fun o => Nat.beq o.nx lo && backAt σ0 lo s m pc o.s o.m o.pc) k1
  simp only [Bool.and_eq_true, Nat.beq_eq] at k1
  obtain ⟨rfl, k1⟩ := k1
  have hbk := back_ok (n := fn.ntmps) hA1.pc k1
  obtain ⟨ρ', e, o, kx, hL⟩ := loop_rule (n := fn.ntmps) (hi := hi) (Kx := fun e s' m' nx' pc' => match e with
      | .normal => true
      | .exit i => Nat.beq i b && evT P sm fuel t.post s' m' nx' pc' fun e s m nx pc => match e with
        | .exit _ => false
        | _ => resC P s m fn.results.toList fun vs => Kr vs pc
      | .ret => false) hm hsm σf o3 o5 (by
    refine Eq.trans (congrArg (ev P sm fuel body s m oA.nx pc) ?_) k2
    funext e s' m' nx' pc'
    cases e <;> rfl) _ _ hbk.pc rfl
  cases e with
  | normal => exact absurd rfl hL.ne
  | ret => cases kx
  | exit i =>
    simp only [Bool.and_eq_true, Nat.beq_eq] at kx
    obtain ⟨rfl, kx⟩ := kx
    obtain ⟨⟨e2, oT⟩, hT, kT, _⟩ := evT_yl (n := fn.ntmps) hm (hsm ρ') hL.pc o4 (fun r => match r.1 with
        | .exit _ => false
        | _ => resC P r.2.s r.2.m fn.results.toList fun vs => Kr vs r.2.pc) kx
    have key : (e2 = .normal ∨ e2 = .ret) ∧ resC P oT.s oT.m fn.results.toList (fun vs => Kr vs oT.pc) = true := by
      cases e2 with
      | normal => exact ⟨.inl rfl, kT⟩
      | ret => exact ⟨.inr rfl, kT⟩
      | exit i => cases kT
    obtain ⟨he2, kr⟩ := key
    obtain ⟨vs, hvs, kr, _⟩ := resC_yl (ρ := ρ') (n := fn.ntmps) _ kr
    refine ⟨ρ', vs, oT.pc, by rw [hL.str]; rfl, kr, hT.pc, fun w us hus => ?_⟩
    have hlen := dens_len hus
    let a0 : Act := { tmps := us.toArray ++ Array.replicate (fn.ntmps - us.toArray.size) undef, defers := [] }
    have hAt : At ρ fn.ntmps s0 .lf a0 w (fun _ => none) := by
      refine ⟨rfl, ?_, fun k sv hk => ?_, ⟨fun t b h => by simp [Tr.get] at h, fun x y g c c' h => by simp [Tr.get] at h⟩⟩
      · show (us.toArray ++ Array.replicate (fn.ntmps - us.toArray.size) undef).size = fn.ntmps
        simp [hlen]; omega
      · rcases hs1 k sv hk with ⟨_, h1⟩ | h1
        · rw [Nat.sub_zero] at h1
          obtain ⟨u, h2, h3⟩ := dens_get hus h1
          rw [h3]
          have hlt := (List.getElem?_eq_some_iff.1 h2).1
          show _ = some ((us.toArray ++ Array.replicate (fn.ntmps - us.toArray.size) undef).getD k undef)
          rw [Array.getD_eq_getD_getElem?, Array.getElem?_append_left (by simpa using hlt)]
          simp [h2]
        · simp [Tr.get] at h1
    refine calls_of_wp hf hb ?_
    refine plug_wp (hA1.run a0 w _ _ _ hAt ?_ ?_)
    · exact fun t _ _ => rfl
    intro a1 w1 θ1 hAt1 hsp1
    obtain ⟨HI, e1, e3, e4⟩ : ∃ HI, hi ≤ HI ∧ oT.nx ≤ HI ∧ oA.nx ≤ HI := ⟨max hi (max oT.nx oA.nx), by omega, by omega, by omega⟩
    have hAt2 := hbk.at_ HI a1 w1 θ1 hAt1
    have hspb := SP.back hbk hAt1 (hsp1.wk (Nat.le_refl _) e4) (Nat.zero_le _) fun t _ _ => rfl
    refine wp_block (loop_of ((hL.run a1 w1 _ hAt2 fun t q1 q2 => if_pos ⟨q1, by omega⟩).mono fun e a2 w2 ⟨he, θ2, hAt3, hsp2⟩ => ?_))
    cases he
    simp only [Exit.inBlock, if_true]
    have hf2 : ∀ t, o.nx ≤ t → t < oT.nx → θ2 t = none := fun t q1 q2 => by
      cases hb : θ2 t with
      | none => rfl
      | some u =>
        exfalso
        rcases hsp2.new t (by rw [hb]; simp) with q | q
        · exact q (if_pos ⟨Nat.le_trans hL.le q1, Nat.lt_of_lt_of_le q2 e3⟩)
        · exact Nat.lt_irrefl _ (Nat.lt_of_lt_of_le q.2 q1)
    refine hT.run a2 w2 θ2 _ hAt3 hf2 fun e a3 w3 ⟨he3, θ3, hAt4, hsp3⟩ => ?_
    obtain ⟨us', h1, h2⟩ := hvs a3 w3 θ3 hAt4
    have hx : Ext none' w w3 := ((hspb.trans2 hsp2 (Nat.zero_le _) hL.le).trans2 hsp3 (Nat.zero_le _) hT.le).ext.mono fun g _ ⟨t, c, q1, _⟩ => absurd rfl q1
    have post : a3.defers = [] ∧ ∃ v, (results fn a3.tmps).run P w3 = .ok v w3 ∧ ∃ θ' u, Ending.returned v = .returned u ∧ den ρ' θ' (retV vs) = some u ∧ Ext none' w w3 :=
      ⟨hAt4.defers, _, run_results h2, θ3, _, rfl, retV_den h1, hx⟩
    rcases he2 with h | h <;> rw [h] at he3 <;> cases he3 <;> exact post
end
end X
end Go.Proofs.YtdbchpoaoghgpaaGreatDoor

set_option linter.unusedSimpArgs false
set_option linter.unusedVariables false
namespace Go.Proofs.YtdbchpoaoghgpaaGreatDoor
namespace X
open Go.RowKit B

/-! ### The same, by facts and by strings that are one -/
def memP (e : Lin) : PC → Bool
  | [] => false
  | x :: l => match eqLin e x with
    | true => true
    | false => memP e l
def allP (pc : PC) : PC → Bool
  | [] => true
  | e :: l => (memP e pc || proves pc e) && allP pc l
/-- two strings are one, or two numbers, where facts hold -/
structure Rules where
  s : List (PC × Str × Str)
  l : List (PC × Lin × Lin)
structure RulesOk (ρ : Rho) (rs : Rules) : Prop where
  s : ∀ g x y, (g, x, y) ∈ rs.s → Sat ρ g → denS ρ x = denS ρ y
  l : ∀ g x y, (g, x, y) ∈ rs.l → Sat ρ g → x.den ρ = y.den ρ
def ruleS : List (PC × Str × Str) → PC → Str → Str → Bool
  | [], _, _, _ => false
  | (g, x, y) :: l, pc, a, b => match eqStr a x && eqStr b y && allP pc g with
    | true => true
    | false => ruleS l pc a b
def sameS (rs : Rules) (pc : PC) (a b : Str) : Bool := match eqStr a b with
  | true => true
  | false => ruleS rs.s pc a b
/-- tags: those from lo on are named anew -/
abbrev Al := List (Nat × Nat)
def findT : Al → Nat → Option Nat
  | [], _ => none
  | (t, u) :: l, s => match Nat.beq t s with
    | true => some u
    | false => findT l s
def tagOk (al : Al) (lo t u : Nat) : Bool := match Nat.blt t lo with
  | true => Nat.beq t u
  | false => match findT al t with
    | some x => Nat.beq x u
    | none => false
def ruleL : List (PC × Lin × Lin) → PC → Lin → Lin → Bool
  | [], _, _, _ => false
  | (g, x, y) :: l, pc, a, b => match eqLin a x && eqLin b y && allP pc g with
    | true => true
    | false => ruleL l pc a b
def sameL (rs : Rules) (pc : PC) (a b : Lin) : Bool := match eqLin a b with
  | true => true
  | false => match ruleL rs.l pc a b with
    | true => true
    | false => proves pc (a.sub b) && proves pc (b.sub a)
mutual
def sameV (al : Al) (lo : Nat) (rs : Rules) (pc : PC) : SV → SV → Bool
  | .i k p, .i j q => ikEq k j && eqI p q
  | .x k e, .x j e' => ikEq k j && sameL rs pc e e'
  | .x k e, .i j n => ikEq k j && sameL rs pc e (.mk n [])
  | .i k n, .x j e => ikEq k j && sameL rs pc (.mk n []) e
  | .b a, .b b => a == b
  | .s a, .s b => sameS rs pc a b
  | .p t i, .p u j => tagOk al lo t u && Nat.beq i j
  | .np, .np => true
  | .sl t o n c, .sl t' o' n' c' => tagOk al lo t t' && Nat.beq o o' && Nat.beq n n' && capEq c c'
  | .sb t l, .sb t' l' => tagOk al lo t t' && sameS rs pc l l'
  | .ns, .ns => true
  | .ag l, .ag m => sameVs al lo rs pc l m
  | .tu l, .tu m => sameVs al lo rs pc l m
  | .fn f a b, .fn g c d => Nat.beq f g && sameVs al lo rs pc a c && sameVs al lo rs pc b d
  | .nf, .nf => true
  | .ni, .ni => true
  | .nm, .nm => true
  | .mp t, .mp u => tagOk al lo t u
  | .su t, .su u => tagOk al lo t u
  | .g a b, .g c d => Nat.beq a c && Nat.beq b d
  | .un, .un => true
  | .sv t e, .sv u k => tagOk al lo t u && sameL rs pc e k
  | .sx t n, .sx u k => tagOk al lo t u && Nat.beq n k
  | _, _ => false
def sameVs (al : Al) (lo : Nat) (rs : Rules) (pc : PC) : List SV → List SV → Bool
  | [], [] => true
  | a :: l, b :: m => sameV al lo rs pc a b && sameVs al lo rs pc l m
  | _, _ => false
end
def sameEs (al : Al) (lo : Nat) (rs : Rules) (pc : PC) : List (SV × SV × Nat) → List (SV × SV × Nat) → Bool
  | [], [] => true
  | (a, b, n) :: l, (c, d, k) :: m => sameV al lo rs pc a c && sameV al lo rs pc b d && Nat.beq n k && sameEs al lo rs pc l m
  | _, _ => false
def sameB (al : Al) (lo : Nat) (rs : Rules) (pc : PC) : Blk → Blk → Bool
  | .ce t a x, .ce u b y => Nat.beq t u && sameVs al lo rs pc a b && (x == y)
  | .bt t a, .bt u b => Nat.beq t u && sameS rs pc a b
  | .mp a c, .mp b d => sameEs al lo rs pc a b && Nat.beq c d
  | .ob t a, .ob u b => Nat.beq t u && sameS rs pc a b
  | .cv a, .cv b => sameVs al lo rs pc a b
  | .cq n b, .cq k d => Nat.beq n k && Nat.beq b d
  | .cx t n b, .cx u k d => Nat.beq t u && Nat.beq n k && Nat.beq b d
  | _, _ => false
/-- memory, written down -/
abbrev ML := List (Nat × Blk)
def allL (p : Nat → Blk → Bool) : ML → Bool
  | [] => true
  | (t, b) :: l => p t b && allL p l
def mkK : ML → Mem → (Mem → Bool) → Bool
  | [], m, K => K m
  | (t, b) :: l, m, K => m.set t (some b) fun m => mkK l m K
def mkU : ML → Mem → Mem
  | [], m => m
  | (t, b) :: l, m => mkU l (Tr.up 23 m t (some b))
theorem allL_ok {p : Nat → Blk → Bool} : ∀ {l : ML}, allL p l = true → ∀ t b, (t, b) ∈ l → p t b = true
  | [], _, t, b, h => by cases h
  | (s, c) :: l, hp, t, b, h => by
    simp only [allL, Bool.and_eq_true] at hp
    rcases List.mem_cons.1 h with h | h
    · cases h; exact hp.1
    · exact allL_ok hp.2 t b h
theorem mkK_ok : ∀ {l : ML} {m : Mem} {K : Mem → Bool}, mkK l m K = true → K (mkU l m) = true ∧ ∀ t b, (mkU l m).get t = some b → (t, b) ∈ l ∨ m.get t = some b
  | [], m, K, h => ⟨h, fun t b e => .inr e⟩
  | (s, c) :: l, m, K, h => by
    simp only [mkK, Tr.set] at h
    split at h
    · rename_i hk
      have hk' : s < 2 ^ 22 := by have := Nat.le_of_ble_eq_true hk; omega
      rw [Tr.put_eq (f := 22) hk'] at h
      obtain ⟨h1, h2⟩ := mkK_ok (l := l) h
      refine ⟨h1, fun t b e => ?_⟩
      rcases h2 t b e with k | k
      · exact .inl (List.mem_cons_of_mem _ k)
      · rw [Tr.up_get hk'] at k
        split at k
        · rename_i e; subst e; cases k; exact .inl (by simp)
        · exact .inr k
    · cases h
/-- m is told by l -/
def Told (l : ML) (m : Mem) : Prop := ∀ t b, m.get t = some b → (t, b) ∈ l
theorem mkK_told {l : ML} {K : Mem → Bool} (h : mkK l .lf K = true) : K (mkU l .lf) = true ∧ Told l (mkU l .lf) := by
  obtain ⟨h1, h2⟩ := mkK_ok h
  refine ⟨h1, fun t b e => ?_⟩
  rcases h2 t b e with k | k
  · exact k
  · simp [Tr.get] at k
def subML (al : Al) (lo : Nat) (rs : Rules) (pc : PC) (l : ML) (m : Mem) : Bool := allL (fun t b => match m.get t with
  | some b' => sameB al lo rs pc b b'
  | none => false) l
section
variable {ρ : Rho} {rs : Rules} {pc : PC} {θ θ1 : Th} {al : Al} {lo : Nat}
theorem memP_ok {e : Lin} : ∀ {l : PC}, memP e l = true → e ∈ l
  | [], h => by cases h
  | x :: l, h => by
    simp only [memP] at h
    split at h
    · rename_i hq; rw [eqLin_ok hq]; simp
    · exact List.mem_cons_of_mem _ (memP_ok h)
theorem allP_ok (hs : Sat ρ pc) : ∀ {l : PC}, allP pc l = true → Sat ρ l
  | [], _, e, he => by cases he
  | x :: l, h, e, he => by
    simp only [allP, Bool.and_eq_true, Bool.or_eq_true] at h
    rcases List.mem_cons.1 he with rfl | he
    · rcases h.1 with h1 | h1
      · exact hs _ (memP_ok h1)
      · exact proves_ok h1 hs
    · exact allP_ok hs h.2 e he
theorem ruleS_ok (hs : Sat ρ pc) {rs : List (PC × Str × Str)} (hr : ∀ g x y, (g, x, y) ∈ rs → Sat ρ g → denS ρ x = denS ρ y) {a b : Str} (h : ruleS rs pc a b = true) : denS ρ a = denS ρ b := by
  induction rs with
  | nil => cases h
  | cons r l ih =>
    obtain ⟨g, x, y⟩ := r
    simp only [ruleS] at h
    split at h
    · rename_i hc
      simp only [Bool.and_eq_true] at hc
      rw [eqStr_ok hc.1.1, eqStr_ok hc.1.2]
      exact hr g x y (by simp) (allP_ok hs hc.2)
    · exact ih (fun g x y hr' => hr g x y (by simp [hr'])) h
theorem sameS_ok (hs : Sat ρ pc) (hr : RulesOk ρ rs) {a b : Str} (h : sameS rs pc a b = true) : denS ρ a = denS ρ b := by
  unfold sameS at h
  split at h
  · rename_i hc; rw [eqStr_ok hc]
  · exact ruleS_ok hs hr.s h
theorem ruleL_ok (hs : Sat ρ pc) {rs : List (PC × Lin × Lin)} (hr : ∀ g x y, (g, x, y) ∈ rs → Sat ρ g → x.den ρ = y.den ρ) {a b : Lin} (h : ruleL rs pc a b = true) : a.den ρ = b.den ρ := by
  induction rs with
  | nil => cases h
  | cons r l ih =>
    obtain ⟨g, x, y⟩ := r
    simp only [ruleL] at h
    split at h
    · rename_i hc
      simp only [Bool.and_eq_true] at hc
      rw [eqLin_ok hc.1.1, eqLin_ok hc.1.2]
      exact hr g x y (by simp) (allP_ok hs hc.2)
    · exact ih (fun g x y hr' => hr g x y (by simp [hr'])) h
theorem sameL_ok (hs : Sat ρ pc) (hr : RulesOk ρ rs) {a b : Lin} (h : sameL rs pc a b = true) : a.den ρ = b.den ρ := by
  unfold sameL at h
  split at h
  · rename_i hc; rw [eqLin_ok hc]
  · split at h
    · rename_i hc; exact ruleL_ok hs hr.l hc
    · simp only [Bool.and_eq_true] at h
      have h1 := proves_ok h.1 hs
      have h2 := proves_ok h.2 hs
      rw [sub_den] at h1 h2
      omega
/-- what stands for the tags -/
def TagsOk (al : Al) (lo : Nat) (θ1 θ : Th) : Prop := ∀ t u, tagOk al lo t u = true → θ1 t = θ u
mutual
theorem sameV_ok (hs : Sat ρ pc) (hr : RulesOk ρ rs) (hθ : TagsOk al lo θ1 θ) : ∀ {v v' : SV}, sameV al lo rs pc v v' = true → den ρ θ1 v = den ρ θ v'
  | v, v', h => by
    cases v <;> cases v' <;> first
      | (simp only [sameV] at h; done)
      | (simp [sameV] at h; done)
      | rfl
      | skip
    all_goals simp only [sameV, Bool.and_eq_true, Nat.beq_eq, eqI_iff, ikEq_iff, beq_iff_eq] at h
    · obtain ⟨rfl, rfl⟩ := h; rfl
    · obtain ⟨rfl, h⟩ := h
      have := sameL_ok hs hr h
      rw [const_den] at this
      simp only [den, this]
    · obtain ⟨rfl, h⟩ := h
      have := sameL_ok hs hr h
      rw [const_den] at this
      simp only [den, this]
    · obtain ⟨rfl, h⟩ := h
      simp only [den, sameL_ok hs hr h]
    · subst h; rfl
    · simp only [den, sameS_ok hs hr h]
    · obtain ⟨h, rfl⟩ := h
      simp only [den, hθ _ _ h]
    · obtain ⟨⟨⟨h1, rfl⟩, rfl⟩, h⟩ := h
      have := capEq_ok h
      subst this
      simp only [den, hθ _ _ h1]
    · obtain ⟨h1, h⟩ := h
      simp only [den, sameS_ok hs hr h, hθ _ _ h1]
    · simp only [den, hθ _ _ h]
    · simp only [den, sameVs_ok hs hr hθ h]
    · simp only [den, sameVs_ok hs hr hθ h]
    · obtain ⟨⟨rfl, h1⟩, h2⟩ := h
      simp only [den, sameVs_ok hs hr hθ h1, sameVs_ok hs hr hθ h2]
    · simp only [den, hθ _ _ h]
    · obtain ⟨rfl, rfl⟩ := h; rfl
    · simp only [den, hθ _ _ h.1, sameL_ok hs hr h.2]
    · simp only [den, hθ _ _ h.1, h.2]
theorem sameVs_ok (hs : Sat ρ pc) (hr : RulesOk ρ rs) (hθ : TagsOk al lo θ1 θ) : ∀ {l l' : List SV}, sameVs al lo rs pc l l' = true → dens ρ θ1 l = dens ρ θ l'
  | [], [], _ => rfl
  | a :: l, b :: m, h => by
    simp only [sameVs, Bool.and_eq_true] at h
    simp only [dens, sameV_ok hs hr hθ h.1, sameVs_ok hs hr hθ h.2]
  | [], _ :: _, h => by cases h
  | _ :: _, [], h => by cases h
end
theorem sameEs_ok (hs : Sat ρ pc) (hr : RulesOk ρ rs) (hθ : TagsOk al lo θ1 θ) : ∀ {l l' : List (SV × SV × Nat)}, sameEs al lo rs pc l l' = true → denE ρ θ1 l = denE ρ θ l'
  | [], [], _ => rfl
  | (a, b, n) :: l, (c, d, k) :: m, h => by
    simp only [sameEs, Bool.and_eq_true, Nat.beq_eq] at h
    obtain ⟨⟨⟨h1, h2⟩, rfl⟩, h3⟩ := h
    simp only [denE, sameV_ok hs hr hθ h1, sameV_ok hs hr hθ h2, sameEs_ok hs hr hθ h3]
  | [], _ :: _, h => by cases h
  | _ :: _, [], h => by cases h
theorem sameB_ok (hs : Sat ρ pc) (hr : RulesOk ρ rs) (hθ : TagsOk al lo θ1 θ) {t u : Nat} (ht : θ1 t = θ u) {w : World} {b b' : Blk} (h : sameB al lo rs pc b b' = true) (hb : HoldsB ρ θ w u b') : HoldsB ρ θ1 w t b := by
  cases b <;> cases b' <;> first | (simp [sameB] at h; done) | skip
  all_goals simp only [sameB, Bool.and_eq_true, Nat.beq_eq, beq_iff_eq] at h
  · obtain ⟨⟨rfl, h1⟩, rfl⟩ := h
    obtain ⟨g, c, vs, arr, rest, f1, f2, f3, f4, f5, f6, f7⟩ := hb
    exact ⟨g, c, vs, arr, rest, ht.trans f1, f2, f3, (sameVs_ok hs hr hθ h1).trans f4, f5, f6, f7⟩
  · obtain ⟨rfl, h1⟩ := h
    obtain ⟨g, c, arr, rest, f1, f2, f3, f4⟩ := hb
    exact ⟨g, c, arr, rest, ht.trans f1, f2, f3, by rw [sameS_ok hs hr h1]; exact f4⟩
  · obtain ⟨h1, rfl⟩ := h
    obtain ⟨g, c, arr, f1, f2, f3⟩ := hb
    exact ⟨g, c, arr, ht.trans f1, f2, (sameEs_ok hs hr hθ h1).trans f3⟩
  · obtain ⟨rfl, h1⟩ := h
    obtain ⟨g, c, arr, rest, ss, f1, f2, f3, f4⟩ := hb
    exact ⟨g, c, arr, rest, ss, ht.trans f1, f2, f3, by rw [sameS_ok hs hr h1]; exact f4⟩
  · obtain ⟨g, c, vs, f1, f2, f3, f4⟩ := hb
    exact ⟨g, c, vs, ht.trans f1, f2, (sameVs_ok hs hr hθ h).trans f3, f4⟩
  · obtain ⟨rfl, rfl⟩ := h
    obtain ⟨g, c, f1, f2, f3⟩ := hb
    exact ⟨g, c, ht.trans f1, f2, f3⟩
  · obtain ⟨⟨rfl, rfl⟩, rfl⟩ := h
    obtain ⟨g, c, arr, rest, f1, f2⟩ := hb
    exact ⟨g, c, arr, rest, ht.trans f1, f2⟩
theorem subML_ok {l : ML} {m0 m : Mem} (h0 : Told l m0) (h : subML al lo rs pc l m = true) : ∀ t b, m0.get t = some b → ∃ b', m.get t = some b' ∧ sameB al lo rs pc b b' = true := fun t b hb => by
  have := allL_ok h t b (h0 t b hb)
  split at this
  · rename_i b' hb'; exact ⟨b', hb', this⟩
  · cases this
theorem subML_ne {l : ML} {m0 m : Mem} (h0 : Told l m0) (h : subML al lo rs pc l m = true) {t : Nat} (ht : m0.get t ≠ none) : m.get t ≠ none := by
  cases hb : m0.get t with
  | none => exact absurd hb ht
  | some b => obtain ⟨b', e, _⟩ := subML_ok h0 h t b hb; rw [e]; simp
theorem tagsOk_id {lo : Nat} : TagsOk [] lo θ θ := fun t u h => by
  unfold tagOk at h
  split at h
  · rw [Nat.eq_of_beq_eq_true h]
  · simp [findT] at h
theorem MemOk.same (hs : Sat ρ pc) (hr : RulesOk ρ rs) {l : ML} {m0 m : Mem} {w : World} (h0 : Told l m0) (h : subML [] lo rs pc l m = true) (hM : MemOk ρ θ m.get w) : MemOk ρ θ m0.get w :=
  ⟨fun t b hb => by
    obtain ⟨b', e, h1⟩ := subML_ok h0 h t b hb
    exact sameB_ok hs hr tagsOk_id rfl h1 (hM.holds t b' e), fun s t g c c' h1 h2 => hM.inj s t g c c' (subML_ne h0 h h1) (subML_ne h0 h h2)⟩
end

/-! ### Which tags are meant -/
def memA (t : Nat) : Al → Bool
  | [] => false
  | (s, _) :: l => match Nat.beq s t with
    | true => true
    | false => memA t l
/-- pairs of tags that stand at one place -/
def prV : Nat → SV → SV → Al → Al
  | 0, _, _, al => al
  | f + 1, v, v', al => match v, v' with
    | .p t _, .p u _ => (t, u) :: al
    | .sl t _ _ _, .sl u _ _ _ => (t, u) :: al
    | .sb t _, .sb u _ => (t, u) :: al
    | .mp t, .mp u => (t, u) :: al
    | .su t, .su u => (t, u) :: al
    | .sv t _, .sv u _ => (t, u) :: al
    | .sx t _, .sx u _ => (t, u) :: al
    | .ag l, .ag m => prVs f l m al
    | .tu l, .tu m => prVs f l m al
    | .fn _ a b, .fn _ c d => prVs f a c (prVs f b d al)
    | _, _ => al
where
  prVs : Nat → List SV → List SV → Al → Al
  | 0, _, _, al => al
  | f + 1, a :: l, b :: m, al => prVs f l m (prV f a b al)
  | _ + 1, _, _, al => al
def prE : List (SV × SV × Nat) → List (SV × SV × Nat) → Al → Al
  | (a, b, _) :: l, (c, d, _) :: m, al => prE l m (prV 50 a c (prV 50 b d al))
  | _, _, al => al
def prB : Option Blk → Option Blk → Al → Al
  | some (.ce _ a _), some (.ce _ b _), al => prV.prVs 400 a b al
  | some (.mp a _), some (.mp b _), al => prE a b al
  | some (.cv a), some (.cv b), al => prV.prVs 400 a b al
  | _, _, al => al
/-- the pairs that are to be looked at; those found -/
def prGo (lo : Nat) (m1 m : Mem) : Nat → Al → Al → (Al → Bool) → Bool
  | 0, _, _, _ => false
  | _ + 1, [], al, K => K al
  | f + 1, (t, u) :: l, al, K => match Nat.blt t lo || memA t al with
    | true => prGo lo m1 m f l al K
    | false => prGo lo m1 m f (prB (m1.get t) (m.get u) l) ((t, u) :: al) K
def oldT (lo : Nat) (m : Mem) : ML → Al → Al
  | [], al => al
  | (t, b) :: l, al => match Nat.blt t lo with
    | true => oldT lo m l (prB (some b) (m.get t) al)
    | false => oldT lo m l al
/-- names anew: each once, within the bounds -/
def memV (u : Nat) : Al → Bool
  | [] => false
  | (_, s) :: l => match Nat.beq s u with
    | true => true
    | false => memV u l
def alOk (lo hi : Nat) : Al → Bool
  | [] => true
  | (t, u) :: l => Nat.ble lo t && Nat.blt t hi && !memA t l && !memV u l && alOk lo hi l
theorem memA_find {t : Nat} : ∀ {l : Al}, memA t l = false → findT l t = none
  | [], _ => rfl
  | (s, u) :: l, h => by
    simp only [memA] at h
    split at h
    · cases h
    · rename_i hc
      simp only [findT, hc]
      exact memA_find h
theorem memV_find {u : Nat} : ∀ {l : Al}, memV u l = false → ∀ t, findT l t ≠ some u
  | [], _, t, h => by cases h
  | (s, v) :: l, h, t, ht => by
    simp only [memV] at h
    split at h
    · cases h
    · rename_i hc
      simp only [findT] at ht
      split at ht
      · cases ht; simp at hc
      · exact memV_find h t ht
theorem alOk_rng {lo hi : Nat} : ∀ {l : Al}, alOk lo hi l = true → ∀ t u, findT l t = some u → lo ≤ t ∧ t < hi
  | [], _, t, u, h => by cases h
  | (s, v) :: l, hk, t, u, h => by
    simp only [alOk, Bool.and_eq_true, Nat.ble_eq, Nat.blt_eq] at hk
    simp only [findT] at h
    split at h
    · rename_i hc
      have := Nat.eq_of_beq_eq_true hc
      cases h
      omega
    · exact alOk_rng hk.2 t u h
theorem alOk_inj {lo hi : Nat} : ∀ {l : Al}, alOk lo hi l = true → ∀ s t u, findT l s = some u → findT l t = some u → s = t
  | [], _, s, t, u, h, _ => by cases h
  | (x, v) :: l, hk, s, t, u, h1, h2 => by
    simp only [alOk, Bool.and_eq_true, Bool.not_eq_true'] at hk
    simp only [findT] at h1 h2
    split at h1 <;> split at h2
    · rename_i _ ha _ hb
      rw [← Nat.eq_of_beq_eq_true ha, ← Nat.eq_of_beq_eq_true hb]
    · cases h1; exact absurd h2 (memV_find hk.1.2 t)
    · cases h2; exact absurd h1 (memV_find hk.1.2 s)
    · exact alOk_inj hk.2 s t u h1 h2
def tagOf (al : Al) (lo t : Nat) : Nat := match Nat.blt t lo with
  | true => t
  | false => match findT al t with
    | some x => x
    | none => t

/-! ### The call -/
def cutS (rs : Rules) (args0 : List SV) (l0 : ML) (nx0 : Nat) (pc0 : PC) (v1 : SV) (l1 : ML) (nx1 : Nat) (pc1 : PC) (args : List SV) (m : Mem) (nx : Nat) (pc : PC) (K : SV → Mem → Nat → PC → Bool) : Bool :=
  match Nat.beq nx nx0 && sameVs [] nx0 rs pc args0 args && subML [] nx0 rs pc l0 m && allP pc pc0 with
  | true => mkK l1 .lf fun m1 => K v1 m1 nx1 (pc1 ++ pc)
  | false => false
/-- is what stands at the end what is written down, tags from lo on named anew? -/
def endOk (rs : Rules) (lo : Nat) (v1 : SV) (l1 : ML) (nx1 : Nat) (pc1 : PC) (v : SV) (m : Mem) (nx : Nat) (pc : PC) (al : Al) : Bool :=
  Nat.ble nx nx1 && alOk lo nx1 al && sameV al lo rs pc v1 v && allL (fun t b => Nat.blt t nx1 && (!Nat.blt t lo || !memV t al) && match m.get (tagOf al lo t) with
    | some b' => tagOk al lo t (tagOf al lo t) && sameB al lo rs pc b b'
    | none => false) l1 && allP pc pc1
def cutEnd (rs : Rules) (lo : Nat) (v1 : SV) (l1 : ML) (nx1 : Nat) (pc1 : PC) (v : SV) (m : Mem) (nx : Nat) (pc : PC) : Bool :=
  mkK l1 .lf fun m1 => prGo lo m1 m 100000 (prV 50 v1 v (oldT lo m l1 [])) [] fun al => endOk rs lo v1 l1 nx1 pc1 v m nx pc al
theorem prGo_ok {lo : Nat} {m1 m : Mem} {K : Al → Bool} : ∀ {f : Nat} {l al : Al}, prGo lo m1 m f l al K = true → ∃ al, K al = true
  | 0, _, _, h => by simp [prGo] at h
  | f + 1, [], al, h => ⟨al, h⟩
  | f + 1, (t, u) :: l, al, h => by
    simp only [prGo] at h
    split at h
    · exact prGo_ok h
    · exact prGo_ok h
/-- the same call from a state told otherwise -/
theorem CallR.retell {P : Program} {ρ : Rho} {rs : Rules} (hr : RulesOk ρ rs) {f : Nat} {args args0 : List SV} {l0 : ML} {m m0 : Mem} {nx : Nat} {pc : PC} (hs : Sat ρ pc) (h0 : Told l0 m0) {r : O4} (h : CallR P ρ f args0 m0 nx r) (h1 : sameVs [] nx rs pc args0 args = true) (h2 : subML [] nx rs pc l0 m = true) : CallR P ρ f args m nx r :=
  ⟨h.enter, h.pc, h.le, fun t e1 e2 => h.new t (by
    cases hb : m0.get t with
    | none => rfl
    | some b => obtain ⟨b', e, _⟩ := subML_ok h0 h2 t b hb; rw [e] at e1; cases e1) e2, fun w θ vs hvs hM hfr => by
    refine calls_mono (h.run w θ vs ((sameVs_ok hs hr tagsOk_id h1).trans hvs) (MemOk.same hs hr h0 h2 hM) hfr) fun e w' ⟨v, θ', f1, f2, f3⟩ => ⟨v, θ', f1, ?_, f3⟩
    exact ⟨f2.le, f2.new, f2.mem, f2.ext.mono fun g _ ⟨t, c, k1, k2⟩ => ⟨t, c, subML_ne h0 h2 k1, k2⟩, fun g hg => by
      rcases f2.own g hg with ⟨s, c', k3, k4⟩ | k
      · exact .inl ⟨s, c', subML_ne h0 h2 k3, k4⟩
      · exact .inr k⟩⟩
/-- what it comes to, told otherwise -/
theorem CallR.tell {P : Program} {ρ : Rho} {rs : Rules} (hr : RulesOk ρ rs) {f : Nat} {args0 : List SV} {m0 : Mem} {nx : Nat} {pc : PC} (hs : Sat ρ pc) {v1 : SV} {l1 : ML} {nx1 : Nat} {pc1 : PC} {r : O4} (q : CallR P ρ f args0 m0 nx r) (he : cutEnd rs nx v1 l1 nx1 pc1 r.v r.m r.nx r.pc = true) : CallR P ρ f args0 m0 nx ⟨v1, mkU l1 .lf, nx1, pc1 ++ pc⟩ := by
    obtain ⟨he, hT⟩ := mkK_told he
    generalize mkU l1 .lf = m1 at he hT
    obtain ⟨al, he⟩ := prGo_ok he
    simp only [endOk, Bool.and_eq_true, Nat.ble_eq] at he
    obtain ⟨⟨⟨⟨e1, ea⟩, e2⟩, e3⟩, e4⟩ := he
    have e3 := allL_ok e3
    have mold : ∀ t b, m1.get t = some b → t < nx → memV t al = false := fun t b hb hl => by
      have := e3 t b (hT t b hb)
      simp only [Bool.and_eq_true, Nat.blt_eq] at this
      have h7 := this.1.2
      rw [show Nat.blt t nx = true by rw [Nat.blt_eq]; exact hl] at h7
      simpa using h7
    have mk : ∀ t b, m1.get t = some b → t < nx1 ∧ tagOk al nx t (tagOf al nx t) = true ∧ ∃ b', r.m.get (tagOf al nx t) = some b' ∧ sameB al nx rs r.pc b b' = true := fun t b hb => by
      have := e3 t b (hT t b hb)
      simp only [Bool.and_eq_true, Nat.blt_eq] at this
      refine ⟨this.1.1, ?_⟩
      have h7 := this.2
      split at h7
      · rename_i b' hb'
        simp only [Bool.and_eq_true] at h7
        exact ⟨h7.1, b', hb', h7.2⟩
      · cases h7
    have mn : ∀ t, m1.get t ≠ none → t < nx1 ∧ tagOk al nx t (tagOf al nx t) = true ∧ r.m.get (tagOf al nx t) ≠ none := fun t ht => by
      cases hb : m1.get t with
      | none => exact absurd hb ht
      | some b => obtain ⟨q1, q2, b', q3, _⟩ := mk t b hb; exact ⟨q1, q2, by rw [q3]; simp⟩
    refine ⟨q.enter, fun e he => ?_, Nat.le_trans q.le e1, fun t h1 h2 => ?_, fun w θ vs hvs hM hfr => ?_⟩
    · rcases List.mem_append.1 he with he | he
      · exact allP_ok q.pc e4 e he
      · exact hs e he
    · obtain ⟨k1, k2, k3⟩ := mn t h2
      refine ⟨?_, k1⟩
      rcases Nat.lt_or_ge t nx with l | l
      · exfalso
        have : tagOf al nx t = t := by unfold tagOf; rw [show Nat.blt t nx = true by rw [Nat.blt_eq]; exact l]
        rw [this] at k3
        have := q.new t h1 k3
        omega
      · exact l
    · refine calls_mono (q.run w θ vs hvs hM fun t h1 h2 => hfr t h1 (by simp only at h2 ⊢; omega)) fun e w' ⟨v, θ', f1, f2, f3⟩ => ?_
    -- what the tags stand for now
      let θ1 : Th := fun t => if nx ≤ t ∧ t < nx1 then (match findT al t with | some u => θ' u | none => none) else θ' t
      have hθ : TagsOk al nx θ1 θ' := fun t u h => by
        unfold tagOk at h
        split at h
        · rename_i hl
          rw [Nat.blt_eq] at hl
          have := Nat.eq_of_beq_eq_true h
          subst this
          simp only [θ1]
          rw [if_neg (by omega)]
        · split at h
          · rename_i x hx
            have := Nat.eq_of_beq_eq_true h
            subst this
            have hrg := alOk_rng ea _ _ hx
            simp only [θ1]
            rw [if_pos (by omega), hx]
          · cases h
      refine ⟨v, θ1, f1, ?_, (sameV_ok q.pc hr hθ e2).trans f3⟩
      refine ⟨fun t x hx => ?_, fun t ht => ?_, ⟨fun t b hb => ?_, fun s t g c c' h1 h2 h3 h4 => ?_⟩, f2.ext, fun g ⟨t, c, h1, h2⟩ => ?_⟩
      · simp only [θ1]
        split
        · rename_i hb
          have := hfr t hb.1 hb.2
          rw [this] at hx; cases hx
        · exact f2.le t x hx
      · by_cases hb : nx ≤ t ∧ t < nx1
        · exact .inr hb
        · simp only [θ1] at ht
          rw [if_neg hb] at ht
          rcases f2.new t ht with h | h
          · exact .inl h
          · exact absurd ⟨h.1, by have h2 := h.2; omega⟩ hb
      · obtain ⟨k1, k2, b', k3, k4⟩ := mk t b hb
        exact sameB_ok q.pc hr hθ (hθ _ _ k2) k4 (f2.mem.holds _ b' k3)
      · obtain ⟨k1, k2, k3⟩ := mn s h1
        obtain ⟨l1, l2, l3⟩ := mn t h2
        have := f2.mem.inj _ _ g c c' k3 l3 ((hθ _ _ k2).symm.trans h3) ((hθ _ _ l2).symm.trans h4)
        have cs : ∀ x, tagOk al nx x (tagOf al nx x) = true → (x < nx ∧ tagOf al nx x = x) ∨ (nx ≤ x ∧ findT al x = some (tagOf al nx x)) := fun x hx => by
          unfold tagOk at hx
          split at hx
          · rename_i hl
            rw [Nat.blt_eq] at hl
            exact .inl ⟨hl, (Nat.eq_of_beq_eq_true hx).symm⟩
          · rename_i hl
            split at hx
            · rename_i y hy
              have := Nat.eq_of_beq_eq_true hx
              have hrg := alOk_rng ea _ _ hy
              exact .inr ⟨hrg.1, by rw [hy, this]⟩
            · cases hx
        have nd : ∀ x, m1.get x ≠ none → x < nx → memV x al = false := fun x hx hl => by
          cases hb : m1.get x with
          | none => exact absurd hb hx
          | some b => exact mold x b hb hl
        rcases cs s k2 with ⟨a1, a2⟩ | ⟨a1, a3⟩ <;> rcases cs t l2 with ⟨b1, b2⟩ | ⟨b1, b3⟩
        · omega
        · rw [← this, a2] at b3
          exact absurd b3 (memV_find (nd s h1 a1) t)
        · rw [this, b2] at a3
          exact absurd a3 (memV_find (nd t h2 b1) s)
        · rw [this] at a3
          exact alOk_inj ea _ _ _ a3 b3
      · obtain ⟨k1, k2, k3⟩ := mn t h1
        exact f2.own g ⟨_, c, k3, (hθ _ _ k2).symm.trans h2⟩
theorem cut_call {P : Program} {ρ : Rho} (hm : P.follows .mixedOrders = true) {sm : SumT} (hsm : SumOk P ρ sm) {rs : Rules} (hr : RulesOk ρ rs) {fuel f : Nat} {args0 : List SV} {l0 : ML} {nx0 : Nat} {pc0 : PC} {v1 : SV} {l1 : ML} {nx1 : Nat} {pc1 : PC}
    (hk : mkK l0 .lf (fun m0 => callBy P sm (ev P sm fuel) f args0 m0 nx0 pc0 (cutEnd rs nx0 v1 l1 nx1 pc1)) = true) {pc : PC} (hs : Sat ρ pc) (h0 : Sat ρ pc0) : Told l0 (mkU l0 .lf) ∧ CallR P ρ f args0 (mkU l0 .lf) nx0 ⟨v1, mkU l1 .lf, nx1, pc1 ++ pc⟩ := by
  obtain ⟨hk, hT⟩ := mkK_told hk
  obtain ⟨r, q, he, _⟩ := callBy_ok hm hsm fuel f args0 (mkU l0 .lf) nx0 pc0 h0 (fun r => cutEnd rs nx0 v1 l1 nx1 pc1 r.v r.m r.nx r.pc) hk
  exact ⟨hT, q.tell hr hs he⟩
/-- of a state that is told by facts, what is known of calls from there -/
theorem cut_yl {P : Program} {ρ : Rho} {rs : Rules} (hr : RulesOk ρ rs) {f : Nat} {args0 : List SV} {l0 : ML} {nx0 : Nat} {pc0 : PC} {v1 : SV} {l1 : ML} {nx1 : Nat} {pc1 : PC}
    (hk : ∀ pc, Sat ρ pc → Sat ρ pc0 → ∃ m0, Told l0 m0 ∧ CallR P ρ f args0 m0 nx0 ⟨v1, mkU l1 .lf, nx1, pc1 ++ pc⟩) {args : List SV} {m : Mem} {nx : Nat} {pc : PC} (hs : Sat ρ pc) :
    Yl (fun K => cutS rs args0 l0 nx0 pc0 v1 l1 nx1 pc1 args m nx pc fun v m nx pc => K ⟨v, m, nx, pc⟩) (CallR P ρ f args m nx) := by
  unfold cutS
  split
  · rename_i hc
    simp only [Bool.and_eq_true] at hc
    obtain ⟨⟨⟨c1, c2⟩, c3⟩, c4⟩ := hc
    have c1 := Nat.eq_of_beq_eq_true c1
    subst c1
    obtain ⟨m0, h0, hc⟩ := hk pc hs (allP_ok hs c4)
    exact fun K hK => ⟨_, CallR.retell hr hs h0 hc c2 c3, (mkK_told hK).1, fun K' hK' => (mkK_told hK').1⟩
  · exact Yl.no
end X
end Go.Proofs.YtdbchpoaoghgpaaGreatDoor

set_option linter.unusedSimpArgs false
set_option linter.unusedVariables false
namespace Go.Proofs.YtdbchpoaoghgpaaGreatDoor
namespace X
open Go.RowKit B

def lookU : ML → Nat → Option Blk → Option Blk
  | [], _, o => o
  | (s, b) :: l, t, o => lookU l t (if t = s then some b else o)
theorem lookU_none {t : Nat} : ∀ {l : ML} {o : Option Blk}, lookU l t o = (match lookU l t none with | some b => some b | none => o)
  | [], o => rfl
  | (s, b) :: l, o => by
    simp only [lookU]
    rw [lookU_none (l := l) (o := if t = s then some b else o), lookU_none (l := l) (o := if t = s then some b else none)]
    cases lookU l t none <;> simp
    split <;> rfl
theorem mkK_get : ∀ {l : ML} {m : Mem} {K : Mem → Bool}, mkK l m K = true → K (mkU l m) = true ∧ ∀ t, (mkU l m).get t = lookU l t (m.get t)
  | [], m, K, h => ⟨h, fun t => rfl⟩
  | (s, c) :: l, m, K, h => by
    simp only [mkK, Tr.set] at h
    split at h
    · rename_i hk
      have hk' : s < 2 ^ 22 := by have := Nat.le_of_ble_eq_true hk; omega
      rw [Tr.put_eq (f := 22) hk'] at h
      obtain ⟨h1, h2⟩ := mkK_get (l := l) h
      refine ⟨h1, fun t => ?_⟩
      have h3 := h2 t
      rw [Tr.up_get hk'] at h3
      exact h3
    · cases h
def rmK : ML → Mem → (Mem → Bool) → Bool
  | [], m, K => K m
  | (t, _) :: l, m, K => m.set t none fun m => rmK l m K
def rmU : ML → Mem → Mem
  | [], m => m
  | (t, _) :: l, m => rmU l (Tr.up 23 m t none)
theorem rmK_get : ∀ {l : ML} {m : Mem} {K : Mem → Bool}, rmK l m K = true → K (rmU l m) = true ∧ ∀ t, ((∃ b, (t, b) ∈ l) → (rmU l m).get t = none) ∧ ((rmU l m).get t = none ∨ (rmU l m).get t = m.get t)
  | [], m, K, h => ⟨h, fun t => ⟨fun hq => (by obtain ⟨b, hb⟩ := hq; cases hb), Or.inr rfl⟩⟩
  | (s, c) :: l, m, K, h => by
    simp only [rmK, Tr.set] at h
    split at h
    · rename_i hk
      have hk' : s < 2 ^ 22 := by have := Nat.le_of_ble_eq_true hk; omega
      rw [Tr.put_eq (f := 22) hk'] at h
      obtain ⟨h1, h2⟩ := rmK_get (l := l) h
      refine ⟨h1, fun t => ?_⟩
      obtain ⟨h3, h4⟩ := h2 t
      rw [Tr.up_get hk'] at h4
      show ((∃ b, (t, b) ∈ (s, c) :: l) → (rmU l (Tr.up 23 m s none)).get t = none) ∧ _
      refine ⟨fun ⟨b, hb⟩ => ?_, ?_⟩
      · rcases List.mem_cons.1 hb with hb | hb
        · cases hb
          rcases h4 with h4 | h4
          · exact h4
          · rw [if_pos rfl] at h4; exact h4
        · exact h3 ⟨b, hb⟩
      · rcases h4 with h4 | h4
        · exact .inl h4
        · split at h4
          · exact .inl h4
          · exact .inr h4
    · cases h
/-- what l0 tells may be turned, what it does not tell stays as it is -/
def cutF (rs : Rules) (args0 : List SV) (l0 : ML) (nx0 : Nat) (pc0 : PC) (v1 : SV) (l1 : ML) (nx1 : Nat) (pc1 : PC) (args : List SV) (m : Mem) (nx : Nat) (pc : PC) (K : SV → Mem → Nat → PC → Bool) : Bool :=
  match Nat.beq nx nx0 && sameVs [] nx0 rs pc args0 args && subML [] nx0 rs pc l0 m && allP pc pc0 && allP pc pc1 with
  | true => mkK l0 .lf fun _ => mkK l1 .lf fun _ => rmK l0 m fun m => mkK l1 m fun m1 => K v1 m1 nx1 pc1
  | false => false
theorem mkU_mem {l : ML} {m : Mem} {K : Mem → Bool} (h : mkK l .lf K = true) {t : Nat} {b : Blk} (hb : (t, b) ∈ l) : (mkU l .lf).get t ≠ none := by
  obtain ⟨_, h2⟩ := mkK_get h
  rw [h2]
  have : ∀ {l : ML} {o : Option Blk}, (o ≠ none ∨ ∃ b, (t, b) ∈ l) → lookU l t o ≠ none := fun {l} => by
    induction l with
    | nil => intro o ho; rcases ho with ho | ⟨b, hb⟩; exact ho; cases hb
    | cons x l ih =>
      intro o ho
      obtain ⟨s, c⟩ := x
      simp only [lookU]
      refine ih ?_
      rcases ho with ho | ⟨b, hb⟩
      · left; split <;> simp_all
      · rcases List.mem_cons.1 hb with hb | hb
        · cases hb; left; simp
        · exact .inr ⟨b, hb⟩
  exact this (.inr ⟨b, hb⟩)
theorem cutF_yl {P : Program} {ρ : Rho} {rs : Rules} (hr : RulesOk ρ rs) {f : Nat} {args0 : List SV} {l0 : ML} {nx0 : Nat} {pc0 : PC} {v1 : SV} {l1 : ML} {nx1 : Nat} {pc1 : PC}
    (hk : Sat ρ pc0 → CallR P ρ f args0 (mkU l0 .lf) nx0 ⟨v1, mkU l1 .lf, nx1, pc0⟩) {args : List SV} {m : Mem} {nx : Nat} {pc : PC} (hs : Sat ρ pc) :
    Yl (fun K => cutF rs args0 l0 nx0 pc0 v1 l1 nx1 pc1 args m nx pc fun v m nx pc => K ⟨v, m, nx, pc⟩) (CallR P ρ f args m nx) := by
  unfold cutF
  split
  · rename_i hc
    simp only [Bool.and_eq_true] at hc
    obtain ⟨⟨⟨⟨c1, c2⟩, c3⟩, c4⟩, c5⟩ := hc
    have c1 := Nat.eq_of_beq_eq_true c1
    subst c1
    intro K hK
    obtain ⟨k0, hT⟩ := mkK_told hK
    have hm0 := fun {t b} (hb : (t, b) ∈ l0) => mkU_mem (m := m) hK (t := t) hb
    have g1 := (mkK_get k0).2
    obtain ⟨k1, _⟩ := mkK_told k0
    obtain ⟨k2, hd⟩ := rmK_get k1
    obtain ⟨k3, hg⟩ := mkK_get k2
    have q := hk (allP_ok hs c4)
    generalize hm0' : mkU l0 .lf = m0 at q hT hm0
    -- the memory in the template's words
    let M2 : Nat → Option Blk := fun t => match m0.get t with | some b => some b | none => m.get t
    have ne2 : ∀ t, M2 t ≠ none → m.get t ≠ none := fun t ht => by
      cases hb : m0.get t with
      | none => simpa only [M2, hb] using ht
      | some b => exact subML_ne hT c3 (by rw [hb]; simp)
    have out : ∀ t b, (mkU l1 (rmU l0 m)).get t = some b → ((mkU l1 .lf).get t = some b) ∨ ((mkU l1 .lf).get t = none ∧ m0.get t = none ∧ m.get t = some b) := fun t b hb => by
      rw [hg t, lookU_none] at hb
      have e1 := g1 t
      have e2 : (Tr.get (α := Blk) .lf t) = none := by simp [Tr.get]
      rw [e2] at e1
      rw [e1]
      cases hl : lookU l1 t none with
      | some c => (rw [hl] at hb; simp only at hb; exact .inl hb)
      | none =>
        rw [hl] at hb
        simp only at hb
        refine .inr ⟨rfl, ?_, ?_⟩
        · cases h0 : m0.get t with
          | none => rfl
          | some c => rw [(hd t).1 ⟨c, hT t c h0⟩] at hb; cases hb
        · rcases (hd t).2 with h | h
          · rw [h] at hb; cases hb
          · rw [← h]; exact hb
    refine ⟨⟨v1, mkU l1 (rmU l0 m), nx1, pc1⟩, ⟨q.enter, allP_ok hs c5, q.le, fun t h1 h2 => ?_, fun w θ vs hvs hM hfr => ?_⟩, k3, fun K' hK' => ?_⟩
    · cases hb : (mkU l1 (rmU l0 m)).get t with
      | none => exact absurd hb h2
      | some b =>
        rcases out t b hb with h | ⟨_, _, h⟩
        · refine q.new t ?_ (by rw [h]; simp)
          cases h0 : m0.get t with
          | none => rfl
          | some c => exact absurd h1 (subML_ne hT c3 (by rw [h0]; simp))
        · rw [h1] at h; cases h
    · have hM2 : MemOk ρ θ M2 w := ⟨fun t b hb => by
        cases h0 : m0.get t with
        | some c =>
          simp only [M2, h0] at hb
          cases hb
          obtain ⟨b', e, h1⟩ := subML_ok hT c3 t _ h0
          exact sameB_ok hs hr tagsOk_id rfl h1 (hM.holds t b' e)
        | none =>
          simp only [M2, h0] at hb
          exact hM.holds t b hb, fun s t g c c' h1 h2 => hM.inj s t g c c' (ne2 s h1) (ne2 t h2)⟩
      refine calls_mono (q.run w θ vs ((sameVs_ok hs hr tagsOk_id c2).trans hvs) (MemOk.same hs hr hT c3 hM) hfr) fun e w' ⟨v, θ', f1, f2, f3⟩ => ⟨v, θ', f1, ?_, f3⟩
      have f4 := SP.frame (tc := fun t => m0.get t ≠ none ∨ (mkU l1 .lf).get t ≠ none) (M' := (mkU l1 (rmU l0 m)).get) hM2 (fun t b hb => ⟨.inl (by rw [hb]; simp), by simp only [M2, hb]⟩) f2 (fun t ht => by
          cases h : (mkU l1 .lf).get t with
          | none => rfl
          | some b => exact absurd (.inr (by rw [h]; simp)) ht) (fun t b hb => by
          rcases out t b hb with h | ⟨h0, h1, h2⟩
          · exact .inl ⟨.inr (by rw [h]; simp), h⟩
          · refine .inr ⟨fun hq => ?_, by simp only [M2, h1]; exact h2⟩
            rcases hq with hq | hq
            · exact hq h1
            · exact hq h0)
      exact ⟨f4.le, f4.new, f4.mem, f4.ext.mono fun g _ ⟨t, c, h1, h2⟩ => ⟨t, c, ne2 t h1, h2⟩, fun g hg => by
        rcases f4.own g hg with ⟨t, c, h1, h2⟩ | h
        · exact .inl ⟨t, c, ne2 t h1, h2⟩
        · exact .inr h⟩
    · have a0 := (mkK_told hK').1
      have a1 := (mkK_told a0).1
      have a2 := (rmK_get a1).1
      exact (mkK_get a2).1
  · exact Yl.no
end X
end Go.Proofs.YtdbchpoaoghgpaaGreatDoor
