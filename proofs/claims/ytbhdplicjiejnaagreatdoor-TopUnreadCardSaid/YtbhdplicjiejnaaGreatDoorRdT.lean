/-
  TopUnread: Low, tally.Of, awake, the functions with loops, as the executor calls them.
-/
import Derived.Test.YtbhdplicjiejnaaGreatDoorRdP
import Derived.Test.YtbhdplicjiejnaaGreatDoorRdR
import Derived.Test.YtbhdplicjiejnaaGreatDoorRdE
set_option linter.unusedSimpArgs false
set_option linter.unusedVariables false
namespace Go.Proofs.YtbhdplicjiejnaaGreatDoor
namespace X
open Go.RowKit B

theorem enterLow (args : Array Value) (w : World) : (callFunc 6 args).run Tryz.prog w = .ok (.enter 6 args) w := enter_run (fn := Tryz.f6) (by kernel_rfl) (by kernel_rfl) rfl args w
theorem enterAwake (args : Array Value) (w : World) : (callFunc 5 args).run Tryz.prog w = .ok (.enter 5 args) w := enter_run (fn := Tryz.f5) (by kernel_rfl) (by kernel_rfl) rfl args w
theorem enterTally (args : Array Value) (w : World) : (callFunc 232 args).run Tryz.prog w = .ok (.enter 232 args) w := enter_run (fn := Tryz.f232) (by kernel_rfl) (by kernel_rfl) rfl args w
theorem smI_ok (ρ : Rho) : SumOk Tryz.prog ρ smI := fun f h hh args m nx pc hs => by
  unfold smI at hh
  split at hh
  · rename_i hf
    have := Nat.eq_of_beq_eq_true hf
    subst this
    cases hh
    exact sorted_yl hs
  · cases hh
/-- what a call hands on, in one -/
def CallY (P : Program) (ρ : Rho) (f : Nat) (g : SumF) : Prop := ∀ args m nx pc, Sat ρ pc → Yl (fun K => g args m nx pc fun v m nx pc => K ⟨v, m, nx, pc⟩) (CallR P ρ f args m nx)
theorem withF_ok {P : Program} {ρ : Rho} {sm : SumT} {f : Nat} {g : SumF} (h : SumOk P ρ sm) (hg : CallY P ρ f g) : SumOk P ρ (withF f g sm) := fun x y hy args m nx pc hs => by
  unfold withF at hy
  split at hy
  · rename_i hf
    have := Nat.eq_of_beq_eq_true hf
    subst this
    cases hy
    exact hg args m nx pc hs
  · exact h x y hy args m nx pc hs
theorem callF_ok {P : Program} {ρ : Rho} (hm : P.follows .mixedOrders = true) {sm : SumT} (hsm : ∀ ρ', Agree ρ ρ' → SumOk P ρ' sm) {f : Nat} {c : Code} {trig : Trig} {fn : Func} (hf : P.funcs[f]? = some fn) (hb : fn.body = some (plug (ctxOf c) (.block (idOf c) (.loop (loopOf c))))) (hd : dstOk fn.ntmps (loopOf c) = true)
    (htr : ∀ s m nx c' T Ts hi, trig s m nx = .tail c' T Ts hi → ∃ I, CcR ρ c' I) : CallY P ρ f (callF P sm f c trig) := fun args m nx pc hs => callH_yl hm hsm hf hb hd htr hs
structure RhoT (k : Nat) (txt : Str) (ρ : Rho) : Prop where
  low : lowF (ρ.v 100) 5 = k
  tal : hiS txt = true ∧ ∀ w, Calls Tryz.prog 232 #[.string (bstr (denS ρ txt))] w (fun e w' => e = .returned (.agg #[.int .i64 (denS ρ txt).length, .int .i64 (ρ.v 50), .int .i64 (ρ.v 51), .int .i64 (ρ.v 52)]) ∧ Ext none' w w')
theorem RhoT.agree {k : Nat} {txt : Str} {ρ ρ' : Rho} (h : RhoT k txt ρ) (a : Agree ρ ρ') : RhoT k txt ρ' := by
  refine ⟨by rw [a.v]; exact h.low, h.tal.1, fun w => ?_⟩
  rw [hiS_den a h.tal.1, a.v]
  exact h.tal.2 w
def AwakeC : Prop := ∀ w, Calls Tryz.prog 5 #[] w (fun e w' => e = .returned (.bool true) ∧ Ext none' w w')
section
variable {k : Nat} {txt : Str} {ρ : Rho} {m : Mem} {nx : Nat} {pc : PC}
theorem awakeS_yl (haw : AwakeC) : CallY Tryz.prog ρ 5 awakeS := fun args m nx pc hs => by
  unfold awakeS
  split
  · refine Yl.pure (⟨.b true, m, nx, pc⟩ : O4) (CallR.pure enterAwake hs fun θ w vs hvs => ?_)
    cases hvs
    exact ⟨_, rfl, haw w⟩
  · exact Yl.no
theorem lowS_yl (h : lowF (ρ.v 100) 5 = k) : CallY Tryz.prog ρ 6 (lowS k) := fun args m nx pc hs => by
  unfold lowS
  split
  · refine Yl.pure (⟨.i .i64 (.ofNat k), m, nx, pc⟩ : O4) (CallR.pure enterLow hs fun θ w vs hvs => ?_)
    have e : (Lin.mk 0 [(200, 1)]).den ρ = ρ.v 100 := va_v' ρ 100
    simp only [dens, den, e, Option.bind_some, Option.map_some, Option.some.injEq] at hvs
    subst hvs
    refine ⟨_, rfl, calls_mono (low_c (ρ.v 100) 5 w (by omega) (by omega)) fun e w' ⟨h1, h2⟩ => ⟨?_, by rw [h2]; exact Ext.refl _ _⟩⟩
    rw [h1, h]; rfl
  · exact Yl.no
theorem tallyS_yl (h : RhoT k txt ρ) : CallY Tryz.prog ρ 232 (tallyS txt) := fun args m nx pc hs => by
  have v (i : Nat) : (va (2 * i)).den ρ = ρ.v i := by simp [va, Lin.den, dts, Rho.at_v]
  unfold tallyS
  split
  · rename_i l
    split
    · rename_i hl
      have := eqStr_ok hl
      subst this
      refine Yl.pure (⟨tallyV l 100, m, nx, pc⟩ : O4) (CallR.pure enterTally hs fun θ w vs hvs => ?_)
      simp only [dens, den, Option.bind_some, Option.map_some, Option.some.injEq] at hvs
      subst hvs
      refine ⟨_, ?_, h.tal.2 w⟩
      simp only [tallyV, den, dens, lenS_den, v 50, v 51, v 52, Option.bind_some, Option.map_some]
    · exact callBy_ok mixedO (smI_ok ρ) 1000000 232 _ m nx pc hs
  · exact Yl.no
theorem smB_ok (haw : AwakeC) (h : RhoT k txt ρ) : SumOk Tryz.prog ρ (smB k txt) := fun f g hg args m nx pc hs => by
  unfold smB at hg
  split at hg
  · rename_i hf
    have := Nat.eq_of_beq_eq_true hf
    subst this
    cases hg
    exact sorted_yl hs
  · split at hg
    · rename_i hf
      have := Nat.eq_of_beq_eq_true hf
      subst this
      cases hg
      exact awakeS_yl haw args m nx pc hs
    · split at hg
      · rename_i hf
        have := Nat.eq_of_beq_eq_true hf
        subst this
        cases hg
        exact lowS_yl h.low args m nx pc hs
      · split at hg
        · rename_i hf
          have := Nat.eq_of_beq_eq_true hf
          subst this
          cases hg
          exact tallyS_yl h args m nx pc hs
        · cases hg
end
/-! ### The functions with loops -/
theorem join_top : Tryz.f3.body = some (plug (ctxOf cTop) (.block (idOf cTop) (.loop (loopOf cTop)))) ∧ dstOk Tryz.f3.ntmps (loopOf cTop) = true := ⟨by kernel_rfl, by kernel_rfl⟩
theorem join_guard : Tryz.f4.body = some (plug (ctxOf cGuard) (.block (idOf cGuard) (.loop (loopOf cGuard)))) ∧ dstOk Tryz.f4.ntmps (loopOf cGuard) = true := ⟨by kernel_rfl, by kernel_rfl⟩
theorem join_parts : Tryz.f94.body = some (plug (ctxOf cParts) (.block (idOf cParts) (.loop (loopOf cParts)))) ∧ dstOk Tryz.f94.ntmps (loopOf cParts) = true := ⟨by kernel_rfl, by kernel_rfl⟩
theorem join_opts : Tryz.f318.body = some (plug (ctxOf cOpts) (.block (idOf cOpts) (.loop (loopOf cOpts)))) ∧ dstOk Tryz.f318.ntmps (loopOf cOpts) = true := ⟨by kernel_rfl, by kernel_rfl⟩
theorem join_each : Tryz.f326.body = some (plug (ctxOf cEach) (.block (idOf cEach) (.loop (loopOf cEach)))) ∧ dstOk Tryz.f326.ntmps (loopOf cEach) = true := ⟨by kernel_rfl, by kernel_rfl⟩
theorem fn_top : Tryz.prog.funcs[3]? = some Tryz.f3 := by kernel_rfl
theorem fn_guard : Tryz.prog.funcs[4]? = some Tryz.f4 := by kernel_rfl
theorem fn_parts : Tryz.prog.funcs[94]? = some Tryz.f94 := by kernel_rfl
theorem fn_opts : Tryz.prog.funcs[318]? = some Tryz.f318 := by kernel_rfl
theorem fn_each : Tryz.prog.funcs[326]? = some Tryz.f326 := by kernel_rfl
/-- all that is told of the text: Y, with no $ brace \ and no break; Q: whether options are gone through -/
structure RhoY (k : Nat) (Y : Str) (ρ : Rho) : Prop where
  u : RhoU ρ
  hi : hiS Y = true
  len : (denS ρ Y).length ≤ 40
  pl : Plain (denS ρ Y)
  lf : (10 : UInt8) ∉ denS ρ Y
  t : RhoT k (appL (headS k) Y) ρ
  l6 : (ρ.s 6).length ≤ 40
  p6 : Plain (ρ.s 6)
  b6 : k = 2 → (124 : UInt8) ∉ ρ.s 6
  s9 : ρ.s 9 = txtF (ρ.s 6)
  s10 : ρ.s 10 = zerF (ρ.s 6)
theorem RhoY.agree {k : Nat} {Y : Str} {ρ ρ' : Rho} (h : RhoY k Y ρ) (a : Agree ρ ρ') : RhoY k Y ρ' := by
  have e := hiS_den a h.hi
  refine ⟨h.u.agree a, h.hi, ?_, ?_, ?_, h.t.agree a, ?_, ?_, ?_, ?_, ?_⟩
  · rw [e]; exact h.len
  · rw [e]; exact h.pl
  · rw [e]; exact h.lf
  · rw [a.s 6 (by omega)]; exact h.l6
  · rw [a.s 6 (by omega)]; exact h.p6
  · rw [a.s 6 (by omega)]; exact h.b6
  · rw [a.s 6 (by omega), a.s 9 (by omega)]; exact h.s9
  · rw [a.s 6 (by omega), a.s 10 (by omega)]; exact h.s10
section
variable {k : Nat} {Y : Str} {ρ : Rho}
theorem ccn_lf (h : RhoU ρ) {Z : Str} (hl : (denS ρ Z).length ≤ 40) (lf : (10 : UInt8) ∉ denS ρ Z) {vk : List Nat} : ∃ I, CcR ρ (ccN Z vk [noB 10]) I :=
  ccN_ok h hl fun b hb ρ' _ h1 => sat_cons (noB_ok h1 fun e => lf (by rw [e] at hb; exact hb)) sat_nil
theorem ccn_bs (h : RhoU ρ) {Z : Str} (hl : (denS ρ Z).length ≤ 40) (pl : Plain (denS ρ Z)) {vk : List Nat} : ∃ I, CcR ρ (ccN Z vk noBs) I :=
  ccN_ok h hl fun b hb ρ' _ h1 => noBs_ok h1 (pl b hb)
theorem smE_ok (haw : AwakeC) (h : RhoY k Y ρ) : SumOk Tryz.prog ρ (smE k Y) :=
  withF_ok (smB_ok haw h.t) (callF_ok mixedO (fun ρ' a => smB_ok haw (h.t.agree a)) fn_each join_each.1 join_each.2 fun s m nx c' T Ts hi ht => by rw [eachTrig_c ht]; exact ccn_lf h.u h.len h.lf)
theorem smQ_ok (haw : AwakeC) (h : RhoY k Y ρ) : SumOk Tryz.prog ρ (smQ k Y) := by
  unfold smQ
  split
  · rename_i hk
    have hk := Nat.eq_of_beq_eq_true hk
    exact withF_ok (smE_ok haw h) (callF_ok mixedO (fun ρ' a => smE_ok haw (h.agree a)) fn_opts join_opts.1 join_opts.2 fun s m nx c' T Ts hi ht => by rw [optsTrig_c ht]; exact ccQ_ok h.u h.l6 h.p6 (h.b6 hk) h.s9 h.s10)
  · exact smE_ok haw h
theorem smP_ok (haw : AwakeC) : ∀ n {ρ : Rho}, RhoY k Y ρ → SumOk Tryz.prog ρ (smP n k Y)
  | 0, ρ, h => smQ_ok haw h
  | n + 1, ρ, h => withF_ok (smQ_ok haw h) (callF_ok mixedO (fun ρ' a => smP_ok haw n (h.agree a)) fn_parts join_parts.1 join_parts.2 fun s m nx c' T Ts hi ht => by rw [partsTrig_c ht]; exact ccn_bs h.u h.len h.pl)
theorem grd_ok {c : Cc} {I : Rho → Prop} (h : CcR ρ c I) : CallY Tryz.prog ρ 4 (grd c) :=
  callF_ok mixedO (fun ρ' a => smI_ok ρ') fn_guard join_guard.1 join_guard.2 fun s m nx c' T Ts hi ht => by rw [guardTrig_c ht]; exact ⟨I, h⟩
theorem read_ok (haw : AwakeC) {pc : PC} (hk : readK k Y pc = true) (h : RhoY k Y ρ) : CallY Tryz.prog ρ 53 (cutF r0 [.s (appL (headS k) Y)] [] 221 pc readV (readL (appL (headS k) Y)) 600 pc) := fun args m nx pc' hs =>
  cutF_yl r0_ok (fun h0 => (cut_call mixedO (smP_ok haw 3 h) r0_ok hk h0 h0).2) hs
theorem smG_ok (haw : AwakeC) {pc : PC} (hk : readK k Y pc = true) (h : RhoY k Y ρ) : SumOk Tryz.prog ρ (smG k Y pc) := by
  obtain ⟨I, hI⟩ := ccn_bs h.u h.len h.pl (vk := [3])
  exact withF_ok (withF_ok (smE_ok haw h) (read_ok haw hk h)) (grd_ok hI)
theorem smA_ok (haw : AwakeC) (ρ : Rho) : SumOk Tryz.prog ρ smA := fun f g hg args m nx pc hs => by
  unfold smA at hg
  split at hg
  · rename_i hf
    have := Nat.eq_of_beq_eq_true hf
    subst this
    cases hg
    exact awakeS_yl haw args m nx pc hs
  · cases hg
theorem smS_ok (haw : AwakeC) (h : RhoU ρ) (h6 : (ρ.s 6).length ≤ 40) (h9 : ρ.s 9 = guardF (ρ.s 6)) : SumOk Tryz.prog ρ smS := by
  obtain ⟨I, hI⟩ := ccS_ok h h6 h9
  exact withF_ok (smA_ok haw ρ) (grd_ok hI)
theorem smL_ok (haw : AwakeC) (h : RhoU ρ) (hl : (denS ρ yL).length ≤ 40) (hp : Plain (denS ρ yL)) : SumOk Tryz.prog ρ smL := by
  obtain ⟨I, hI⟩ := ccn_bs h hl hp (vk := [3])
  exact withF_ok (smA_ok haw ρ) (grd_ok hI)
/-! ### From what is told of a call to the call -/
theorem of_callY {f : Nat} {args : List SV} {pc : PC} {vs : List Value} {g : SumF} (hg : CallY Tryz.prog ρ f g) (hs : Sat ρ pc) (hk : g args .lf 0 pc isTrue = true) (hd : dens ρ (fun _ => none) args = some vs) (w : World) :
    Calls Tryz.prog f vs.toArray w (fun e w' => e = .returned (.bool true) ∧ Ext none' w w') := by
  obtain ⟨r, hr, hv, _⟩ := hg args .lf 0 pc hs (fun r => isTrue r.v r.m r.nx r.pc) hk
  have hM : MemOk ρ (fun _ => none) (Tr.get (α := Blk) .lf) w := ⟨fun t b h => by simp [Tr.get] at h, fun x y g c c' h => by simp [Tr.get] at h⟩
  refine calls_mono (hr.run w _ vs hd hM fun t _ _ => rfl) fun e w' ⟨v, θ', h1, h2, h3⟩ => ⟨?_, h2.ext.mono fun g _ ⟨t, c, q, _⟩ => absurd rfl q⟩
  unfold isTrue at hv
  split at hv
  · rename_i hb
    rw [hb] at h3
    cases h3
    exact h1
  · cases hv
theorem args_den (ρ : Rho) (Y : Str) : dens ρ (fun _ => none) (argsU Y) = some [.string (bstr (denS ρ Y)), .int .i64 (ρ.v 100)] := by
  have e : (va 200).den ρ = ρ.v 100 := by simpa [va] using va_v' ρ 100
  simp [argsU, dens, den, e]
theorem top_of {sm : SumT} {Z : Str} {pc : PC} (hsm : ∀ ρ', Agree ρ ρ' → SumOk Tryz.prog ρ' sm) {I : Rho → Prop} (hc : CcR ρ (ccN Z [] [noB 10]) I) (hs : Sat ρ pc) (hk : topK sm Y Z pc = true) (w : World) :
    Calls Tryz.prog 3 #[.string (bstr (denS ρ Y)), .int .i64 (ρ.v 100)] w (fun e w' => e = .returned (.bool true) ∧ Ext none' w w') :=
  of_callY (callF_ok mixedO hsm fn_top join_top.1 join_top.2 fun s m nx c' T Ts hi ht => by rw [ownTrig_c ht]; exact ⟨I, hc⟩) hs hk (args_den ρ Y) w
theorem topE_of {sm : SumT} {pc : PC} (hsm : SumOk Tryz.prog ρ sm) (hs : Sat ρ pc) (hk : topE sm Y pc = true) (w : World) :
    Calls Tryz.prog 3 #[.string (bstr (denS ρ Y)), .int .i64 (ρ.v 100)] w (fun e w' => e = .returned (.bool true) ∧ Ext none' w w') :=
  of_callY (fun args m nx pc hs => callBy_ok mixedO hsm 1000000 3 args m nx pc hs) hs hk (args_den ρ Y) w
end
end X
end Go.Proofs.YtbhdplicjiejnaaGreatDoor
