/-
  A function with a loop in it, that turns no memory of others. Over any program.
-/
import Derived.Test.YtppdehodcoffbaaGreatDoorVX
set_option linter.unusedSimpArgs false
set_option linter.unusedVariables false
namespace Go.Proofs.YtppdehodcoffbaaGreatDoor
namespace X
open Go.RowKit B

/-- code with a hole -/
inductive Ctx where
  | hole
  | l (t : Ctx) (c : Code)
  | r (c : Code) (t : Ctx)
def plug : Ctx → Code → Code
  | .hole, h => h
  | .l t c, h => .seq (plug t h) c
  | .r c t, h => .seq c (plug t h)
def Ctx.pre : Ctx → List Code
  | .hole => []
  | .l t _ => t.pre
  | .r c t => c :: t.pre
def Ctx.post : Ctx → List Code
  | .hole => []
  | .l t c => t.post ++ [c]
  | .r _ t => t.post
def preWp (P : Program) (Q : Exit → Act → World → Prop) (K : Act → World → Prop) : List Code → Act → World → Prop
  | [], a, w => K a w
  | c :: l, a, w => c.wp P (Exit.then (preWp P Q K l) Q) a w
def tailWp (P : Program) (Q : Exit → Act → World → Prop) : List Code → Act → World → Prop
  | [], a, w => Q .normal a w
  | c :: l, a, w => c.wp P (Exit.then (tailWp P Q l) Q) a w
theorem then_mono {K K' : Act → World → Prop} {Q Q' : Exit → Act → World → Prop} (h1 : ∀ a w, K a w → K' a w) (h2 : ∀ e a w, e ≠ .normal → Q e a w → Q' e a w) : ∀ e a w, Exit.then K Q e a w → Exit.then K' Q' e a w := fun e a w h => by
  cases e <;> first | exact h1 _ _ h | exact h2 _ _ _ (by simp) h
theorem preWp_mono {P : Program} {Q Q' : Exit → Act → World → Prop} {K K' : Act → World → Prop} (hk : ∀ a w, K a w → K' a w) (hq : ∀ e a w, e ≠ .normal → Q e a w → Q' e a w) : ∀ {l : List Code} {a : Act} {w : World}, preWp P Q K l a w → preWp P Q' K' l a w
  | [], a, w, h => hk _ _ h
  | c :: l, a, w, h => wp_mono h (then_mono (fun _ _ h => preWp_mono hk hq (l := l) h) hq)
theorem tailWp_app {P : Program} {Q : Exit → Act → World → Prop} {c : Code} : ∀ {l : List Code} {a : Act} {w : World}, tailWp P Q (l ++ [c]) a w → tailWp P (Exit.then (c.wp P Q) Q) l a w
  | [], a, w, h => wp_mono h fun e a w h => by cases e <;> exact h
  | d :: l, a, w, h => wp_mono h (then_mono (fun _ _ h => tailWp_app (l := l) h) fun e a w he h => by cases e <;> first | exact absurd rfl he | exact h)
theorem plug_wp {P : Program} {h : Code} : ∀ {t : Ctx} {Q : Exit → Act → World → Prop} {a : Act} {w : World}, preWp P Q (fun a w => h.wp P (Exit.then (tailWp P Q t.post) Q) a w) t.pre a w → (plug t h).wp P Q a w
  | .hole, Q, a, w, hp => wp_mono (Q := Exit.then (tailWp P Q []) Q) hp fun e a w h => by cases e <;> exact h
  | .r c t, Q, a, w, hp => wp_seq (wp_mono hp (then_mono (fun _ _ h => plug_wp (t := t) h) fun _ _ _ _ h => h))
  | .l t c, Q, a, w, hp => by
    refine wp_seq (plug_wp (t := t) (preWp_mono (fun a w hk => ?_) (fun e a w he h => ?_) hp))
    · refine wp_mono hk (then_mono (fun _ _ h => tailWp_app h) fun e a w he h => ?_)
      cases e <;> first | exact absurd rfl he | exact h
    · cases e <;> first | exact absurd rfl he | exact h
def evs (P : Program) (sm : SumT) (fuel : Nat) : List Code → Tr SV → Mem → Nat → PC → KR → Bool
  | [], s, m, nx, pc, K => K s m nx pc
  | c :: l, s, m, nx, pc, K => ev P sm fuel c s m nx pc fun e s m nx pc => match e with
    | .normal => evs P sm fuel l s m nx pc K
    | _ => false
def evT (P : Program) (sm : SumT) (fuel : Nat) : List Code → Tr SV → Mem → Nat → PC → KC → Bool
  | [], s, m, nx, pc, K => K .normal s m nx pc
  | c :: l, s, m, nx, pc, K => ev P sm fuel c s m nx pc fun e s m nx pc => match e with
    | .normal => evT P sm fuel l s m nx pc K
    | e => K e s m nx pc
def dstOks (n : Nat) : List Code → Bool
  | [] => true
  | c :: l => dstOk n c && dstOks n l
section
variable {P : Program} {ρ : Rho} {n : Nat}
structure EvsR (P : Program) (ρ : Rho) (n : Nat) (l : List Code) (s : Tr SV) (m : Mem) (nx : Nat) (o : OS) : Prop where
  pc : Sat ρ o.pc
  le : nx ≤ o.nx
  run : ∀ (a : Act) (w : World) (θ : Th) (K : Act → World → Prop) (Q : Exit → Act → World → Prop), At ρ n s m a w θ → (∀ t, nx ≤ t → t < o.nx → θ t = none) →
    (∀ a' w' θ', At ρ n o.s o.m a' w' θ' → SP ρ nx o.nx θ m.get w θ' o.m.get w' → K a' w') → preWp P Q K l a w
theorem evs_yl (hm : P.follows .mixedOrders = true) {sm : SumT} (hsm : SumOk P ρ sm) {fuel : Nat} : ∀ {l : List Code} {s : Tr SV} {m : Mem} {nx : Nat} {pc : PC}, Sat ρ pc → dstOks n l = true → Yl (fun K => evs P sm fuel l s m nx pc fun s m nx pc => K ⟨s, m, nx, pc⟩) (EvsR P ρ n l s m nx)
  | [], s, m, nx, pc, hs, _ => Yl.pure (⟨s, m, nx, pc⟩ : OS) ⟨hs, Nat.le_refl _, fun a w θ k Q hA _ h => h a w θ hA (SP.refl hA.mem)⟩
  | c :: l, s, m, nx, pc, hs, hd => by
    simp only [dstOks, Bool.and_eq_true] at hd
    refine Yl.bind (α := AX × OS) (β := OS) (F := fun K => ev P sm fuel c s m nx pc fun e s m nx pc => K (e, ⟨s, m, nx, pc⟩)) (G := fun r K => match r.1 with
      | .normal => evs P sm fuel l r.2.s r.2.m r.2.nx r.2.pc fun s m nx pc => K ⟨s, m, nx, pc⟩
      | _ => false) (ev_yl hm hsm fuel n c s m nx pc hs hd.1) fun r hr => ?_
    obtain ⟨e, o⟩ := r
    cases e with
    | exit i => exact Yl.no
    | ret => exact Yl.no
    | normal =>
      refine (evs_yl hm hsm (l := l) hr.pc hd.2).mono fun o2 h2 => ?_
      have l1 : nx ≤ o.nx := hr.le
      have l2 := h2.le
      refine ⟨h2.pc, Nat.le_trans l1 l2, fun a w θ k Q hA hfr h => ?_⟩
      refine wp_mono (hr.run a w θ hA fun t q1 q2 => hfr t q1 (Nat.lt_of_lt_of_le q2 l2)).wp fun e a' w' hp => ?_
      obtain ⟨he, θ1, hA1, hsp⟩ := hp
      cases he
      refine h2.run a' w' θ1 k Q hA1 (fun t q1 q2 => ?_) fun a2 w2 θ2 hA2 hsp2 => h a2 w2 θ2 hA2 (hsp.trans hsp2 l1 l2)
      cases hb : θ1 t with
      | none => rfl
      | some u =>
        exfalso
        rcases hsp.new t (by rw [hb]; simp) with q | q
        · exact q (hfr t (Nat.le_trans l1 q1) q2)
        · exact Nat.lt_irrefl _ (Nat.lt_of_lt_of_le q.2 q1)

structure EvTR (P : Program) (ρ : Rho) (n : Nat) (l : List Code) (s : Tr SV) (m : Mem) (nx : Nat) (r : AX × OS) : Prop where
  pc : Sat ρ r.2.pc
  le : nx ≤ r.2.nx
  run : ∀ (a : Act) (w : World) (θ : Th) (Q : Exit → Act → World → Prop), At ρ n s m a w θ → (∀ t, nx ≤ t → t < r.2.nx → θ t = none) →
    (∀ e a' w', EPost ρ n m nx w θ r e a' w' → Q e a' w') → tailWp P Q l a w
theorem evT_yl (hm : P.follows .mixedOrders = true) {sm : SumT} (hsm : SumOk P ρ sm) {fuel : Nat} : ∀ {l : List Code} {s : Tr SV} {m : Mem} {nx : Nat} {pc : PC}, Sat ρ pc → dstOks n l = true → Yl (fun K => evT P sm fuel l s m nx pc fun e s m nx pc => K (e, ⟨s, m, nx, pc⟩)) (EvTR P ρ n l s m nx)
  | [], s, m, nx, pc, hs, _ => Yl.pure ((AX.normal, ⟨s, m, nx, pc⟩) : AX × OS) ⟨hs, Nat.le_refl _, fun a w θ Q hA _ h => h _ _ _ ⟨rfl, θ, hA, SP.refl hA.mem⟩⟩
  | c :: l, s, m, nx, pc, hs, hd => by
    simp only [dstOks, Bool.and_eq_true] at hd
    refine Yl.bind (α := AX × OS) (β := AX × OS) (F := fun K => ev P sm fuel c s m nx pc fun e s m nx pc => K (e, ⟨s, m, nx, pc⟩)) (G := fun r K => match r.1 with
      | .normal => evT P sm fuel l r.2.s r.2.m r.2.nx r.2.pc fun e s m nx pc => K (e, ⟨s, m, nx, pc⟩)
      | e => K (e, r.2)) (ev_yl hm hsm fuel n c s m nx pc hs hd.1) fun r hr => ?_
    obtain ⟨e, o⟩ := r
    have cut : ∀ {e : AX}, e ≠ .normal → EvR P ρ n c s m nx (e, o) → EvTR P ρ n (c :: l) s m nx (e, o) := fun {e} hne hr =>
      ⟨hr.pc, hr.le, fun a w θ Q hA hfr h => wp_mono (hr.run a w θ hA hfr).wp (then_cut (e := e) hne (fun e' a' w' he hp => h _ _ _ hp) fun e' a' w' hp => hp.1)⟩
    cases e with
    | exit i => exact Yl.pure (α := AX × OS) _ (cut (by simp) hr)
    | ret => exact Yl.pure (α := AX × OS) _ (cut (by simp) hr)
    | normal =>
      refine (evT_yl hm hsm (l := l) hr.pc hd.2).mono fun r2 h2 => ?_
      have l1 : nx ≤ o.nx := hr.le
      have l2 := h2.le
      refine ⟨h2.pc, Nat.le_trans l1 l2, fun a w θ Q hA hfr h => ?_⟩
      refine wp_mono (hr.run a w θ hA fun t q1 q2 => hfr t q1 (Nat.lt_of_lt_of_le q2 l2)).wp fun e a' w' hp => ?_
      obtain ⟨he, θ1, hA1, hsp⟩ := hp
      cases he
      refine h2.run a' w' θ1 Q hA1 (fun t q1 q2 => ?_) fun e2 a2 w2 ⟨he2, θ2, hA2, hsp2⟩ => h e2 a2 w2 ⟨he2, θ2, hA2, hsp.trans hsp2 l1 l2⟩
      cases hb : θ1 t with
      | none => rfl
      | some u =>
        exfalso
        rcases hsp.new t (by rw [hb]; simp) with q | q
        · exact q (hfr t (Nat.le_trans l1 q1) q2)
        · exact Nat.lt_irrefl _ (Nat.lt_of_lt_of_le q.2 q1)

/-- THE RULE for such a function -/
theorem fun_loop (hm : P.follows .mixedOrders = true) {sm : SumT} (hsm : ∀ ρ, SumOk P ρ sm) {fuel lo hi b : Nat} {f : Nat} {fn : Func} {t : Ctx} {body : Code} (hf : P.funcs[f]? = some fn) (hb : fn.body = some (plug t (.block b (.loop body))))
    {args : List SV} {s : Tr SV} {m : Mem} {pc pc0 : PC} {μ : Lin} {σ0 : List (Nat × Lin)} (σf : Tr SV → Mem → List (Nat × Lin)) {Kr : List SV → PC → Bool} (hok : (Nat.ble args.length fn.ntmps && dstOks fn.ntmps t.pre && dstOk fn.ntmps body && dstOks fn.ntmps t.post && Nat.ble lo hi) = true)
    (k1 : argC args 0 .lf (fun s0 => evs P sm fuel t.pre s0 .lf 0 pc0 fun s' m' nx' pc' => Nat.beq nx' lo && backAt σ0 lo s m pc s' m' pc') = true)
    (k2 : ev P sm fuel body s m lo pc (fun e s' m' nx' pc' => Nat.ble nx' hi && match e with
      | .normal => backOk (σf s' m') lo μ s m pc s' m' pc'
      | .exit i => Nat.beq i b && evT P sm fuel t.post s' m' nx' pc' fun e s m nx pc => match e with
        | .exit _ => false
        | _ => resC P s m fn.results.toList fun vs => Kr vs pc
      | .ret => false) = true) : ∀ ρ, Sat ρ pc0 → ∃ ρ' vs pc', ρ'.s = ρ.s ∧ Kr vs pc' = true ∧ Sat ρ' pc' ∧ ∀ (w : World) (us : List Value), dens ρ (fun _ => none) args = some us → Calls P f us.toArray w (fun e w' => ∃ θ' u, e = .returned u ∧ den ρ' θ' (retV vs) = some u ∧ Ext none' w w') := by
  intro ρ hs0
  simp only [Bool.and_eq_true, Nat.ble_eq] at hok
  obtain ⟨⟨⟨⟨o1, o2⟩, o3⟩, o4⟩, o5⟩ := hok
  obtain ⟨s0, hs1, k1, _⟩ := argC_yl _ k1
  obtain ⟨oA, hA1, k1, _⟩ := evs_yl (n := fn.ntmps) hm (hsm ρ) hs0 o2 (fun o => Nat.beq o.nx lo && backAt σ0 lo s m pc o.s o.m o.pc) k1
  simp only [Bool.and_eq_true, Nat.beq_eq] at k1
  obtain ⟨rfl, k1⟩ := k1
  have hbk := back_ok (n := fn.ntmps) hA1.pc k1
  obtain ⟨ρ', e, o, kx, hL⟩ := loop_rule (n := fn.ntmps) (hi := hi) (Kx := fun e s' m' nx' pc' => match e with
      | .normal => true
      | .exit i => Nat.beq i b && evT P sm fuel t.post s' m' nx' pc' fun e s m nx pc => match e with
        | .exit _ => false
        | _ => resC P s m fn.results.toList fun vs => Kr vs pc
      | .ret => false) hm hsm σf o3 o5 (by
    refine Eq.trans (congrArg (ev P sm fuel body s m oA.nx pc) ?_) k2
    funext e s' m' nx' pc'
    cases e <;> rfl) _ _ hbk.pc rfl
  cases e with
  | normal => exact absurd rfl hL.ne
  | ret => cases kx
  | exit i =>
    simp only [Bool.and_eq_true, Nat.beq_eq] at kx
    obtain ⟨rfl, kx⟩ := kx
    obtain ⟨⟨e2, oT⟩, hT, kT, _⟩ := evT_yl (n := fn.ntmps) hm (hsm ρ') hL.pc o4 (fun r => match r.1 with
        | .exit _ => false
        | _ => resC P r.2.s r.2.m fn.results.toList fun vs => Kr vs r.2.pc) kx
    have key : (e2 = .normal ∨ e2 = .ret) ∧ resC P oT.s oT.m fn.results.toList (fun vs => Kr vs oT.pc) = true := by
      cases e2 with
      | normal => exact ⟨.inl rfl, kT⟩
      | ret => exact ⟨.inr rfl, kT⟩
      | exit i => cases kT
    obtain ⟨he2, kr⟩ := key
    obtain ⟨vs, hvs, kr, _⟩ := resC_yl (ρ := ρ') (n := fn.ntmps) _ kr
    refine ⟨ρ', vs, oT.pc, by rw [hL.str]; rfl, kr, hT.pc, fun w us hus => ?_⟩
    have hlen := dens_len hus
    let a0 : Act := { tmps := us.toArray ++ Array.replicate (fn.ntmps - us.toArray.size) undef, defers := [] }
    have hAt : At ρ fn.ntmps s0 .lf a0 w (fun _ => none) := by
      refine ⟨rfl, ?_, fun k sv hk => ?_, ⟨fun t b h => by simp [Tr.get] at h, fun x y g c c' h => by simp [Tr.get] at h⟩⟩
      · show (us.toArray ++ Array.replicate (fn.ntmps - us.toArray.size) undef).size = fn.ntmps
        simp [hlen]; omega
      · rcases hs1 k sv hk with ⟨_, h1⟩ | h1
        · rw [Nat.sub_zero] at h1
          obtain ⟨u, h2, h3⟩ := dens_get hus h1
          rw [h3]
          have hlt := (List.getElem?_eq_some_iff.1 h2).1
          show _ = some ((us.toArray ++ Array.replicate (fn.ntmps - us.toArray.size) undef).getD k undef)
          rw [Array.getD_eq_getD_getElem?, Array.getElem?_append_left (by simpa using hlt)]
          simp [h2]
        · simp [Tr.get] at h1
    refine calls_of_wp hf hb ?_
    refine plug_wp (hA1.run a0 w _ _ _ hAt ?_ ?_)
    · exact fun t _ _ => rfl
    intro a1 w1 θ1 hAt1 hsp1
    obtain ⟨HI, e1, e3, e4⟩ : ∃ HI, hi ≤ HI ∧ oT.nx ≤ HI ∧ oA.nx ≤ HI := ⟨max hi (max oT.nx oA.nx), by omega, by omega, by omega⟩
    have hAt2 := hbk.at_ HI a1 w1 θ1 hAt1
    have hspb := SP.back hbk hAt1 (hsp1.wk (Nat.le_refl _) e4) (Nat.zero_le _) fun t _ _ => rfl
    refine wp_block (loop_of ((hL.run a1 w1 _ hAt2 fun t q1 q2 => if_pos ⟨q1, by omega⟩).mono fun e a2 w2 ⟨he, θ2, hAt3, hsp2⟩ => ?_))
    cases he
    simp only [Exit.inBlock, if_true]
    have hf2 : ∀ t, o.nx ≤ t → t < oT.nx → θ2 t = none := fun t q1 q2 => by
      cases hb : θ2 t with
      | none => rfl
      | some u =>
        exfalso
        rcases hsp2.new t (by rw [hb]; simp) with q | q
        · exact q (if_pos ⟨Nat.le_trans hL.le q1, Nat.lt_of_lt_of_le q2 e3⟩)
        · exact Nat.lt_irrefl _ (Nat.lt_of_lt_of_le q.2 q1)
    refine hT.run a2 w2 θ2 _ hAt3 hf2 fun e a3 w3 ⟨he3, θ3, hAt4, hsp3⟩ => ?_
    obtain ⟨us', h1, h2⟩ := hvs a3 w3 θ3 hAt4
    have hx : Ext none' w w3 := ((hspb.trans2 hsp2 (Nat.zero_le _) hL.le).trans2 hsp3 (Nat.zero_le _) hT.le).ext.mono fun g _ ⟨t, c, q1, _⟩ => absurd rfl q1
    have post : a3.defers = [] ∧ ∃ v, (results fn a3.tmps).run P w3 = .ok v w3 ∧ ∃ θ' u, Ending.returned v = .returned u ∧ den ρ' θ' (retV vs) = some u ∧ Ext none' w w3 :=
      ⟨hAt4.defers, _, run_results h2, θ3, _, rfl, retV_den h1, hx⟩
    rcases he2 with h | h <;> rw [h] at he3 <;> cases he3 <;> exact post
end
end X
end Go.Proofs.YtppdehodcoffbaaGreatDoor
