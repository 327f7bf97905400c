/-
  Code and calls: what the executor's answer tells. Over any program.
-/
import Derived.Test.YtppdehodcoffbaaGreatDoorVV
set_option linter.unusedSimpArgs false
set_option linter.unusedVariables false
namespace Go.Proofs.YtppdehodcoffbaaGreatDoor
namespace X
open Go.RowKit B

/-! ### Loops -/
def LoopWp (P : Program) (c : Code) (Q : Exit → Act → World → Prop) (a : Act) (w : World) : Prop :=
  ∀ (b : Frame) (k : List Item) (cs : List Frame), ∃ e a' w', Q e a' w' ∧ Arrives P (lone (b.at a (.code c :: .inLoop c :: k)) cs w) b k cs e a' w'
theorem loop_of {P : Program} {c : Code} {Q : Exit → Act → World → Prop} {a : Act} {w : World} (h : LoopWp P c Q a w) : (Code.loop c).wp P Q a w := fun b k cs => by
  obtain ⟨e, a', w', hq, harr⟩ := h b k cs
  exact ⟨e, a', w', hq, .of_steps (.one step_loop) harr⟩
theorem loop_step {P : Program} {c : Code} {Q : Exit → Act → World → Prop} {a : Act} {w : World} (h : c.wp P (Exit.then (LoopWp P c Q) Q) a w) : LoopWp P c Q a w := fun b k cs => by
  obtain ⟨e, a₁, w₁, hq, harr⟩ := h b (.inLoop c :: k) cs
  cases e with
  | normal =>
    obtain ⟨e₂, a₂, w₂, hq₂, harr₂⟩ := hq b k cs
    exact ⟨e₂, a₂, w₂, hq₂, .of_steps (Steps.trans harr (.one step_inLoop)) harr₂⟩
  | exit id => exact ⟨_, a₁, w₁, hq, .pass (x := .inLoop c) rfl (fun _ _ => .inl (by simp)) harr⟩
  | goto l => exact ⟨_, a₁, w₁, hq, .pass (x := .inLoop c) rfl (fun _ _ => .inl (by simp)) harr⟩
  | ret => exact ⟨_, a₁, w₁, hq, .pass (x := .inLoop c) rfl (fun _ _ => .inl (by simp)) harr⟩
  | panic ch => exact ⟨_, a₁, w₁, hq, .pass (x := .inLoop c) rfl (fun _ _ => .inl (by simp)) harr⟩
  | outgrown => exact ⟨_, a₁, w₁, hq, .pass (x := .inLoop c) rfl (fun _ _ => .inl (by simp)) harr⟩
theorem LoopWp.mono {P : Program} {c : Code} {Q Q' : Exit → Act → World → Prop} {a : Act} {w : World} (h : LoopWp P c Q a w) (hq : ∀ e a w, Q e a w → Q' e a w) : LoopWp P c Q' a w := fun b k cs => by
  obtain ⟨e, a', w', q, r⟩ := h b k cs
  exact ⟨e, a', w', hq _ _ _ q, r⟩
/-- code goes on so; of a loop: from its round's beginning -/
def Goes (P : Program) (c : Code) (Q : Exit → Act → World → Prop) (a : Act) (w : World) : Prop := match c with
  | .loop c => LoopWp P c Q a w
  | c => c.wp P Q a w
theorem Goes.wp {P : Program} {c : Code} {Q : Exit → Act → World → Prop} {a : Act} {w : World} (h : Goes P c Q a w) : c.wp P Q a w := by
  cases c with
  | loop c => exact loop_of h
  | _ => exact h
theorem Goes.mono {P : Program} {c : Code} {Q Q' : Exit → Act → World → Prop} {a : Act} {w : World} (h : Goes P c Q a w) (hq : ∀ e a w, Q e a w → Q' e a w) : Goes P c Q' a w := by
  cases c with
  | loop c => exact LoopWp.mono h hq
  | _ => exact wp_mono (c := _) h hq

/-! ### Code -/
def exIs : AX → Exit → Prop
  | .normal, e => e = .normal
  | .exit i, e => e = .exit i
  | .ret, e => e = .ret
def EPost (ρ : Rho) (n : Nat) (m : Mem) (nx : Nat) (w : World) (θ : Th) (r : AX × OS) (e : Exit) (a' : Act) (w' : World) : Prop := exIs r.1 e ∧ ∃ θ', At ρ n r.2.s r.2.m a' w' θ' ∧ SP ρ nx r.2.nx θ m.get w θ' r.2.m.get w'
structure EvR (P : Program) (ρ : Rho) (n : Nat) (c : Code) (s : Tr SV) (m : Mem) (nx : Nat) (r : AX × OS) : Prop where
  pc : Sat ρ r.2.pc
  le : nx ≤ r.2.nx
  new : ∀ t, m.get t = none → r.2.m.get t ≠ none → nx ≤ t ∧ t < r.2.nx
  run : ∀ (a : Act) (w : World) (θ : Th), At ρ n s m a w θ → (∀ t, nx ≤ t → t < r.2.nx → θ t = none) → Goes P c (EPost ρ n m nx w θ r) a w
def EvSp (P : Program) (ρ : Rho) (E : Code → Tr SV → Mem → Nat → PC → KC → Bool) : Prop := ∀ n c s m nx pc, Sat ρ pc → dstOk n c = true → Yl (fun K => E c s m nx pc fun e s m nx pc => K (e, ⟨s, m, nx, pc⟩)) (EvR P ρ n c s m nx)
section
variable {P : Program} {ρ : Rho} {s : Tr SV} {m : Mem} {nx : Nat} {pc : PC} {n : Nat} {c c1 c2 : Code} {r : AX × OS}
theorem EvR.stay {e : AX} (hs : Sat ρ pc) (h : ∀ (a : Act) (w : World) (Q : Exit → Act → World → Prop), (∀ e', exIs e e' → Q e' a w) → Goes P c Q a w) : EvR P ρ n c s m nx (e, ⟨s, m, nx, pc⟩) :=
  ⟨hs, Nat.le_refl _, fun t h1 h2 => absurd h1 h2, fun a w θ hA _ => h a w _ fun e' he => ⟨he, θ, hA, SP.refl hA.mem⟩⟩
/-- one behind another -/
theorem EvR.join {o : OS} (h1 : EvR P ρ n c1 s m nx (.normal, o)) (h2 : EvR P ρ n c2 o.s o.m o.nx r) (hg : ∀ (a : Act) (w : World) (Q : Exit → Act → World → Prop), c1.wp P (Exit.then (fun a w => Goes P c2 Q a w) Q) a w → Goes P c Q a w) : EvR P ρ n c s m nx r := by
  have l1 := h1.le
  have l2 := h2.le
  simp only at l1
  refine ⟨h2.pc, Nat.le_trans l1 l2, fun t e1 e2 => ?_, fun a w θ hA hfr => hg a w _ (wp_mono (h1.run a w θ hA fun t q1 q2 => hfr t q1 (by simp only at q2; omega)).wp fun e a' w' hp => ?_)⟩
  · by_cases e3 : o.m.get t = none
    · have := h2.new t e3 e2; exact ⟨by omega, this.2⟩
    · have := h1.new t e1 e3; simp only at this; exact ⟨this.1, by omega⟩
  · obtain ⟨he, θ', hA', hsp⟩ := hp
    cases he
    refine (h2.run a' w' θ' hA' fun t q1 q2 => ?_).mono fun e a2 w2 ⟨he2, θ2, hA2, hsp2⟩ => ⟨he2, θ2, hA2, hsp.trans hsp2 l1 l2⟩
    cases hb : θ' t with
    | none => rfl
    | some u =>
      exfalso
      rcases hsp.new t (by rw [hb]; simp) with q | q
      · exact q (hfr t (by omega) q2)
      · simp only at q; omega
theorem EvR.cut {o : OS} {e : AX} (h1 : EvR P ρ n c1 s m nx (e, o)) (he : e ≠ .normal) (hg : ∀ (a : Act) (w : World) (Q Q' : Exit → Act → World → Prop), c1.wp P Q' a w → (∀ e' a w, exIs e e' → Q' e' a w → Q e' a w) → (∀ e' a w, Q' e' a w → exIs e e') → Goes P c Q a w) : EvR P ρ n c s m nx (e, o) :=
  ⟨h1.pc, h1.le, h1.new, fun a w θ hA hfr => hg a w _ _ (h1.run a w θ hA hfr).wp (fun e' a w _ h => h) fun e' a w h => h.1⟩
theorem then_cut {e : AX} (he : e ≠ .normal) {K : Act → World → Prop} {Q Q' : Exit → Act → World → Prop} (h1 : ∀ e' a w, exIs e e' → Q' e' a w → Q e' a w) (h2 : ∀ e' a w, Q' e' a w → exIs e e') : ∀ e' a w, Q' e' a w → Exit.then K Q e' a w := fun e' a w h => by
  have := h2 _ _ _ h
  cases e with
  | normal => exact absurd rfl he
  | exit i => have e3 : e' = .exit i := this; subst e3; exact h1 _ _ _ this h
  | ret => have e3 : e' = .ret := this; subst e3; exact h1 _ _ _ this h

/-! ### Calls -/
theorem argC_yl : ∀ {l : List SV} {i : Nat} {s : Tr SV}, Yl (argC l i s) fun s' => ∀ j v, s'.get j = some v → (i ≤ j ∧ l[j - i]? = some v) ∨ s.get j = some v
  | [], i, s => Yl.pure _ fun j v hj => .inr hj
  | x :: l, i, s => by
    have e : argC (x :: l) i s = fun K => s.set i (some x) fun s => argC l (Nat.succ i) s K := rfl
    rw [e]
    refine Yl.bind set_yl fun s1 h1 => argC_yl.mono fun s' h2 j v hj => ?_
    rcases h2 j v hj with ⟨h3, h4⟩ | h3
    · refine .inl ⟨by omega, ?_⟩
      rw [show j - i = (j - Nat.succ i) + 1 by omega]
      simpa using h4
    · rw [h1] at h3
      split at h3
      · rename_i e; subst e; cases h3; exact .inl ⟨Nat.le_refl _, by simp⟩
      · exact .inr h3
def resM (a : Act) : ResultVar → Sem Value
  | .tmp t => pure (a.tmps.getD t undef)
  | .cell b t => do loadVar t (← asAddr (a.tmps.getD b undef))
theorem loadVar_yl {t : Nat} {y : Ty} (ok : TyOk P t y) {g ty off : Nat} {cs : List SV} {ex : Bool} (hg : m.get g = some (.ce ty cs ex)) : Yl (partC y cs off) fun v => ∀ (w : World) (θ : Th), MemOk ρ θ m.get w → ∃ q u, θ g = some q ∧ den ρ θ v = some u ∧ (loadVar t ⟨q.1, off, none⟩).run P w = .ok u w := by
  unfold partC
  split
  · rename_i hag
    refine Yl.map (fun l => SV.ag l) segC_yl fun l hl w θ hM => ?_
    obtain ⟨q, c, vs, h1, h2, h3, h4, h5⟩ := (hM.holds _ _ hg).cells
    have hlen := dens_len h2
    refine ⟨_, .agg ((vs.drop off).take y.sz).toArray, h1, by simp [den, hl.2, dens_take _ (dens_drop _ h2)], ?_⟩
    simp only [loadVar, Sem.run_bind, ok.isAgg, hag, Result.andThen_ok, if_true, ok.size, loadCells]
    have hl2 : ((vs.drop off).take y.sz).length = y.sz := by simp; omega
    have := B.run_loadCellsFrom (P := P) (w := w) ((vs.drop off).take y.sz) ⟨q, off, none⟩ 0 #[] fun j u hj => by
      rw [Nat.zero_add, cell_at]
      refine h4 _ u ?_
      have hj1 : j < y.sz := by have := (List.getElem?_eq_some_iff.1 hj).1; simp at this; omega
      rw [List.getElem?_take_of_lt hj1, List.getElem?_drop] at hj
      exact hj
    rw [hl2] at this
    rw [this]
    simp
  · rename_i hag
    refine nthC_yl.mono fun v hu w θ hM => ?_
    obtain ⟨q, c, vs, h1, h2, h3, h4, h5⟩ := (hM.holds _ _ hg).cells
    obtain ⟨u', g1, g2⟩ := dens_get h2 hu
    refine ⟨_, u', h1, g2, ?_⟩
    have hc := h4 _ _ g1
    simp [loadVar, ok.isAgg, hag, load, Sem.run, hc]
theorem resC_yl : ∀ {rs : List ResultVar}, Yl (resC P s m rs) fun vs => ∀ (a : Act) (w : World) (θ : Th), At ρ n s m a w θ → ∃ us, dens ρ θ vs = some us ∧ (rs.mapM (resM a)).run P w = .ok us w
  | [] => Yl.pure _ fun a w θ _ => ⟨[], rfl, by simp⟩
  | .tmp t :: l => by
    have e : resC P s m (.tmp t :: l) = fun K => match s.get t with
      | some v => resC P s m l fun r => K (v :: r)
      | none => false := rfl
    rw [e]
    split
    · rename_i v hv
      refine Yl.map (fun r => v :: r) resC_yl fun vs h a w θ hA => ?_
      obtain ⟨us, h1, h2⟩ := h a w θ hA
      refine ⟨B.get a t :: us, by simp [dens, hA.slot t v hv, h1], ?_⟩
      rw [List.mapM_cons]
      simp only [resM, Sem.run_bind, Sem.run_pure, Result.andThen_ok, h2]
      rfl
    · exact Yl.no
  | .cell b t :: l => by
    have e : resC P s m (.cell b t :: l) = fun K => match mkTy P t, s.get b with
      | some y, some (.p g off) => match m.get g with
        | some (.ce _ cs _) => partC y cs off fun v => resC P s m l fun r => K (v :: r)
        | _ => false
      | _, _ => false := rfl
    rw [e]
    split
    · rename_i y g off hy hv
      obtain ⟨ok⟩ := mkTy_ok hy
      split
      · rename_i ty cs ex hg
        refine Yl.bind (loadVar_yl (ρ := ρ) ok hg) fun v h0 => ?_
        refine Yl.map (fun r => v :: r) resC_yl fun vs h a w θ hA => ?_
        obtain ⟨us, h1, h2⟩ := h a w θ hA
        obtain ⟨q, u, h3, h4, h5⟩ := h0 w θ hA.mem
        have h6 := hA.slot b _ hv
        simp only [den, h3, Option.map_some, Option.some.injEq] at h6
        refine ⟨u :: us, by simp [dens, h4, h1], ?_⟩
        have e3 : a.tmps.getD b undef = .pointer (some ⟨q.1, off, none⟩) := h6.symm
        rw [List.mapM_cons]
        simp only [resM, Sem.run_bind, e3, asAddr, Sem.run_pure, Result.andThen_ok, h5, h2]
      · exact Yl.no
    · exact Yl.no
def oneVal : List Value → Value
  | [u] => u
  | us => .tuple us.toArray
theorem run_results {fn : Func} {a : Act} {w : World} {us : List Value} (h : (fn.results.toList.mapM (resM a)).run P w = .ok us w) :
    (results fn a.tmps).run P w = .ok (oneVal us) w := by
  have e : results fn a.tmps = (fn.results.mapM (resM a)) >>= fun vs => pure (if h : vs.size = 1 then vs[0] else .tuple vs) := rfl
  simp only [e, Sem.run_bind, Array.mapM_eq_mapM_toList, Sem.run_map, h, Result.andThen_ok, Sem.run_pure]
  match us with
  | [] => rfl
  | [u] => rfl
  | u :: u' :: l => simp [oneVal]
theorem retV_den {θ : Th} {vs : List SV} {us : List Value} (h : dens ρ θ vs = some us) : den ρ θ (retV vs) = some (oneVal us) := by
  have hl := dens_len h
  match vs, us, hl with
  | [], [], _ => rfl
  | [v], [u], _ => simp only [dens, Option.bind_eq_some_iff, Option.map_eq_some_iff, Option.some.injEq] at h; obtain ⟨u', h1, us', rfl, h2⟩ := h; cases h2; exact h1
  | v :: v' :: l, u :: u' :: l', _ => simp only [retV, oneVal, den, h, Option.map_some]
def SumOk (P : Program) (ρ : Rho) (sm : SumT) : Prop := ∀ f h, sm f = some h → ∀ args m nx pc, Sat ρ pc → Yl (fun K => h args m nx pc fun v m nx pc => K ⟨v, m, nx, pc⟩) (CallR P ρ f args m nx)
theorem enter_run {f : Nat} {fn : Func} {c : Code} (hf : P.funcs[f]? = some fn) (hn : (fn.name == "runtime.NumGoroutine") = false) (hb : fn.body = some c) (args : Array Value) (w : World) : (callFunc f args).run P w = .ok (.enter f args) w := by
  have h3' : fn.body.isNone = false := by rw [hb]; rfl
  simp only [callFunc, Sem.run_bind, run_program, Result.andThen_ok, hf, hn, h3', Bool.false_eq_true, if_false, Sem.run_pure]
theorem callBy_yl {sm : SumT} {E : Code → Tr SV → Mem → Nat → PC → KC → Bool} (hsm : SumOk P ρ sm) (hE : EvSp P ρ E) : CallSp P ρ (callBy P sm E) := fun f args m nx pc hs => by
  unfold callBy
  split
  · rename_i h hh
    exact hsm f h hh args m nx pc hs
  · split
    · rename_i fn hf
      split
      · rename_i c hb
        split
        · rename_i hok
          simp only [Bool.and_eq_true, Bool.not_eq_true', Nat.ble_eq] at hok
          obtain ⟨⟨k1, k2⟩, k3⟩ := hok
          refine Yl.bind argC_yl fun s0 hs0 => ?_
          refine Yl.bind (α := AX × OS) (β := O4) (F := fun K => E c s0 m nx pc fun e s m nx pc => K (e, ⟨s, m, nx, pc⟩)) (G := fun r K => match r.1 with
            | .exit _ => false
            | _ => resC P r.2.s r.2.m fn.results.toList fun vs => K ⟨retV vs, r.2.m, r.2.nx, r.2.pc⟩) (hE fn.ntmps c s0 m nx pc hs k3) fun r hr => ?_
          have fin : Yl (fun K => resC P r.2.s r.2.m fn.results.toList fun vs => K (⟨retV vs, r.2.m, r.2.nx, r.2.pc⟩ : O4)) (fun q => ((r.1 = .normal ∨ r.1 = .ret) → CallR P ρ f args m nx q)) := by
            refine Yl.map (fun vs => (⟨retV vs, r.2.m, r.2.nx, r.2.pc⟩ : O4)) (resC_yl (ρ := ρ) (n := fn.ntmps)) fun vs hvs hre => ⟨enter_run hf k1 hb, hr.pc, hr.le, hr.new, fun w θ us hus hM hfr => ?_⟩
            have hlen := dens_len hus
            refine calls_of_wp hf hb (wp_mono (hr.run _ w θ ⟨rfl, ?_, fun k sv hk => ?_, hM⟩ hfr).wp fun e a w' ⟨he, θ', hA, hsp⟩ => ?_)
            · show (us.toArray ++ Array.replicate (fn.ntmps - us.toArray.size) undef).size = fn.ntmps
              simp [hlen]; omega
            · rcases hs0 k sv hk with ⟨_, h1⟩ | h1
              · rw [Nat.sub_zero] at h1
                obtain ⟨u, h2, h3⟩ := dens_get hus h1
                rw [h3]
                have hlt := (List.getElem?_eq_some_iff.1 h2).1
                show _ = some ((us.toArray ++ Array.replicate (fn.ntmps - us.toArray.size) undef).getD k undef)
                rw [Array.getD_eq_getD_getElem?, Array.getElem?_append_left (by simpa using hlt)]
                simp [h2]
              · simp [Tr.get] at h1
            · obtain ⟨us', h1, h2⟩ := hvs a w' θ' hA
              have post : a.defers = [] ∧ ∃ v, (results fn a.tmps).run P w' = .ok v w' ∧ ∃ v' θ'', Ending.returned v = .returned v' ∧ SP ρ nx r.2.nx θ m.get w θ'' r.2.m.get w' ∧ den ρ θ'' (retV vs) = some v' :=
                ⟨hA.defers, _, run_results h2, _, θ', rfl, hsp, retV_den h1⟩
              rcases hre with h | h <;> rw [h] at he <;> cases he <;> exact post
          split
          · exact Yl.no
          · rename_i h1
            refine fin.mono fun q hq => hq ?_
            cases hr1 : r.1 with
            | normal => exact .inl rfl
            | exit i => exact absurd hr1 (h1 i)
            | ret => exact .inr rfl
        · exact Yl.no
      · exact Yl.no
    · exact Yl.no
/-- THE LAW of the executor -/
theorem ev_yl (hm : P.follows .mixedOrders = true) {sm : SumT} (hsm : SumOk P ρ sm) : ∀ f, EvSp P ρ (ev P sm f)
  | 0 => fun n c s m nx pc hs hd => Yl.no
  | f + 1 => fun n c s m nx pc hs hd => by
    have ih := ev_yl hm hsm f
    cases c with
    | skip => exact Yl.pure (AX.normal, (⟨s, m, nx, pc⟩ : OS)) (EvR.stay hs fun a w Q hq => wp_skip (hq _ rfl))
    | label l => exact Yl.pure (AX.normal, (⟨s, m, nx, pc⟩ : OS)) (EvR.stay hs fun a w Q hq => wp_label (hq _ rfl))
    | exit i => exact Yl.pure (AX.exit i, (⟨s, m, nx, pc⟩ : OS)) (EvR.stay hs fun a w Q hq => wp_exit (hq _ rfl))
    | ret => exact Yl.pure (AX.ret, (⟨s, m, nx, pc⟩ : OS)) (EvR.stay hs fun a w Q hq => wp_ret (hq _ rfl))
    | region id ops draw =>
      have hdst : ∀ o ∈ ops.toList, ∀ d, o.dst = some d → d < n := fun o ho d hod => by
        simp only [dstOk, List.all_eq_true] at hd
        have := hd o ho
        rw [hod] at this
        exact Nat.le_of_ble_eq_true this
      refine Yl.map (F := fun K => exR P (callBy P sm (ev P sm f)) ops.toList draw s m nx pc fun s m nx pc => K ⟨s, m, nx, pc⟩) (fun o : OS => (AX.normal, o)) (exR_yl (n := n) (callBy_yl hsm ih) hs) fun r ⟨tr, htr, hdr⟩ => ?_
      exact ⟨htr.pc, htr.le, htr.new, fun a w θ hA hfr => region_ok hm hdst htr hdr hA hfr fun a' w' θ' hA' hsp => ⟨rfl, θ', hA', hsp⟩⟩
    | seq x y =>
      simp only [dstOk, Bool.and_eq_true] at hd
      refine Yl.bind (α := AX × OS) (β := AX × OS) (F := fun K => ev P sm f x s m nx pc fun e s m nx pc => K (e, ⟨s, m, nx, pc⟩)) (G := fun r K => match r.1 with
        | .normal => ev P sm f y r.2.s r.2.m r.2.nx r.2.pc fun e s m nx pc => K (e, ⟨s, m, nx, pc⟩)
        | e => K (e, r.2)) (ih n x s m nx pc hs hd.1) fun r hr => ?_
      obtain ⟨e, o⟩ := r
      cases e with
      | normal => exact (ih n y o.s o.m o.nx o.pc hr.pc hd.2).mono fun r2 hr2 => hr.join hr2 fun a w Q h => wp_seq (wp_mono h fun e a w h => by cases e <;> first | exact Goes.wp h | exact h)
      | exit i => exact Yl.pure (α := AX × OS) _ (hr.cut (by simp) fun a w Q Q' h h1 h2 => wp_seq (wp_mono h (then_cut (by simp) h1 h2)))
      | ret => exact Yl.pure (α := AX × OS) _ (hr.cut (by simp) fun a w Q Q' h h1 h2 => wp_seq (wp_mono h (then_cut (by simp) h1 h2)))
    | cond x a b =>
      simp only [dstOk, Bool.and_eq_true] at hd
      refine Yl.bind (evO_yl (ρ := ρ)) fun v hv => ?_
      have ev' : ∀ {t : Bool}, v = .b t → ∀ {act : Act} {w : World} {θ : Th}, At ρ n s m act w θ → act.eval x = .bool t := fun {t} ht {act w θ} hA => by
        have := hv θ act fun k _ sv hk => hA.slot k sv hk
        rw [ht] at this
        exact (Option.some.inj this).symm
      split
      · rename_i t
        split
        · exact (ih n a s m nx pc hs hd.1).mono fun r hr => ⟨hr.pc, hr.le, hr.new, fun act w θ hA hfr => wp_cond_true (ev' rfl hA) (hr.run act w θ hA hfr).wp⟩
        · exact (ih n b s m nx pc hs hd.2).mono fun r hr => ⟨hr.pc, hr.le, hr.new, fun act w θ hA hfr => wp_cond_false (ev' rfl hA) (hr.run act w θ hA hfr).wp⟩
      · exact Yl.no
    | block id x =>
      simp only [dstOk] at hd
      refine Yl.bind (α := AX × OS) (β := AX × OS) (F := fun K => ev P sm f x s m nx pc fun e s m nx pc => K (e, ⟨s, m, nx, pc⟩)) (G := fun r K => match r.1 with
        | .exit i => match Nat.beq i id with
          | true => K (.normal, r.2)
          | false => K (.exit i, r.2)
        | e => K (e, r.2)) (ih n x s m nx pc hs hd) fun r hr => ?_
      obtain ⟨e, o⟩ := r
      have go : ∀ (e' : AX), (∀ (Q : Exit → Act → World → Prop) e1 a w, exIs e e1 → (∀ e2, exIs e' e2 → Q e2 a w) → Exit.inBlock id Q e1 a w) → EvR P ρ n (.block id x) s m nx (e', o) := fun e' h =>
        ⟨hr.pc, hr.le, hr.new, fun a w θ hA hfr => wp_block (wp_mono (hr.run a w θ hA hfr).wp fun e1 a w ⟨he, hp⟩ => h _ e1 a w he fun e2 he2 => ⟨he2, hp⟩)⟩
      cases e with
      | normal => exact Yl.pure (α := AX × OS) _ (go .normal fun Q e1 a w h1 h2 => by cases h1; exact h2 _ rfl)
      | ret => exact Yl.pure (α := AX × OS) _ (go .ret fun Q e1 a w h1 h2 => by cases h1; exact h2 _ rfl)
      | exit i =>
        show Yl (fun K => match Nat.beq i id with
          | true => K (AX.normal, o)
          | false => K (.exit i, o)) _
        split
        · rename_i hb
          refine Yl.pure (α := AX × OS) _ (go .normal fun Q e1 a w h1 h2 => ?_)
          cases h1
          simp only [Exit.inBlock]
          rw [if_pos (Nat.eq_of_beq_eq_true hb)]
          exact h2 _ rfl
        · rename_i hb
          refine Yl.pure (α := AX × OS) _ (go (.exit i) fun Q e1 a w h1 h2 => ?_)
          cases h1
          simp only [Exit.inBlock]
          rw [if_neg (Nat.ne_of_beq_eq_false hb)]
          exact h2 _ rfl
    | loop x =>
      refine Yl.bind (α := AX × OS) (β := AX × OS) (F := fun K => ev P sm f x s m nx pc fun e s m nx pc => K (e, ⟨s, m, nx, pc⟩)) (G := fun r K => match r.1 with
        | .normal => ev P sm f (.loop x) r.2.s r.2.m r.2.nx r.2.pc fun e s m nx pc => K (e, ⟨s, m, nx, pc⟩)
        | e => K (e, r.2)) (ih n x s m nx pc hs hd) fun r hr => ?_
      obtain ⟨e, o⟩ := r
      cases e with
      | normal => exact (ih n (.loop x) o.s o.m o.nx o.pc hr.pc hd).mono fun r2 hr2 => hr.join hr2 fun a w Q h => loop_step h
      | exit i => exact Yl.pure (α := AX × OS) _ (hr.cut (by simp) fun a w Q Q' h h1 h2 => loop_step (wp_mono h (then_cut (by simp) h1 h2)))
      | ret => exact Yl.pure (α := AX × OS) _ (hr.cut (by simp) fun a w Q Q' h h1 h2 => loop_step (wp_mono h (then_cut (by simp) h1 h2)))
    | _ => exact Yl.no
/-- a function that the executor answers, of whatever arguments -/
theorem callBy_ok (hm : P.follows .mixedOrders = true) {sm : SumT} (hsm : SumOk P ρ sm) (fuel : Nat) : CallSp P ρ (callBy P sm (ev P sm fuel)) := callBy_yl hsm (ev_yl hm hsm fuel)
end
end X
end Go.Proofs.YtppdehodcoffbaaGreatDoor
