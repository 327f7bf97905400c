/-
  TopDeep: turn, tally.Of, Low, awake, Do, as the executor calls them.
-/
import Derived.Test.YtjmnenjejgahjaaGreatDoorDpS
import Derived.Test.YtjmnenjejgahjaaGreatDoorDpE
import Derived.Test.YtjmnenjejgahjaaGreatDoorTurnW
set_option linter.unusedSimpArgs false
set_option linter.unusedVariables false
namespace Go.Proofs.YtjmnenjejgahjaaGreatDoor
namespace X
open Go.RowKit B

theorem enterLow (args : Array Value) (w : World) : (callFunc 5 args).run Tryz.prog w = .ok (.enter 5 args) w := enter_run (fn := Tryz.f5) (by kernel_rfl) (by kernel_rfl) rfl args w
theorem enterAwake (args : Array Value) (w : World) : (callFunc 4 args).run Tryz.prog w = .ok (.enter 4 args) w := enter_run (fn := Tryz.f4) (by kernel_rfl) (by kernel_rfl) rfl args w
theorem enterTally (args : Array Value) (w : World) : (callFunc 250 args).run Tryz.prog w = .ok (.enter 250 args) w := enter_run (fn := Tryz.f250) (by kernel_rfl) (by kernel_rfl) rfl args w
theorem enterTurn (args : Array Value) (w : World) : (callFunc 64 args).run Tryz.prog w = .ok (.enter 64 args) w := enter_run (fn := Tryz.f64) (by kernel_rfl) (by kernel_rfl) rfl args w
theorem smI_ok (ρ : Rho) : SumOk Tryz.prog ρ smI := fun f h hh args m nx pc hs => by
  unfold smI at hh
  split at hh
  · rename_i hf
    have := Nat.eq_of_beq_eq_true hf
    subst this
    cases hh
    exact sorted_yl hs
  · cases hh
section
variable {n : Nat} {ρ : Rho} {m : Mem} {nx : Nat} {pc : PC}
theorem awakeS_yl (haw : ∀ w, Calls Tryz.prog 4 #[] w (fun e w' => e = .returned (.bool true) ∧ Ext none' w w')) {args : List SV} (hs : Sat ρ pc) : Yl (fun K => awakeS args m nx pc fun v m nx pc => K ⟨v, m, nx, pc⟩) (CallR Tryz.prog ρ 4 args m nx) := by
  unfold awakeS
  split
  · refine Yl.pure (⟨.b true, m, nx, pc⟩ : O4) (CallR.pure enterAwake hs fun θ w vs hvs => ?_)
    cases hvs
    exact ⟨_, rfl, haw w⟩
  · exact Yl.no
theorem lowS_yl (h : RhoD n ρ) {args : List SV} (hs : Sat ρ pc) : Yl (fun K => lowS (n - 1) args m nx pc fun v m nx pc => K ⟨v, m, nx, pc⟩) (CallR Tryz.prog ρ 5 args m nx) := by
  unfold lowS
  split
  · refine Yl.pure (⟨.i .i64 (.ofNat (n - 1)), m, nx, pc⟩ : O4) (CallR.pure enterLow hs fun θ w vs hvs => ?_)
    have e : (Lin.mk 0 [(200, 1)]).den ρ = ρ.v 100 := va_v' ρ 100
    simp only [dens, den, e, Option.bind_some, Option.map_some, Option.some.injEq] at hvs
    subst hvs
    refine ⟨_, rfl, calls_mono (low_c (ρ.v 100) 8 w (by omega) (by omega)) fun e w' ⟨h1, h2⟩ => ⟨?_, by rw [h2]; exact Ext.refl _ _⟩⟩
    rw [h1, h.low]; rfl
  · exact Yl.no
theorem turnS_yl (h : RhoD n ρ) {args : List SV} (hs : Sat ρ pc) : Yl (fun K => turnS n args m nx pc fun v m nx pc => K ⟨v, m, nx, pc⟩) (CallR Tryz.prog ρ 64 args m nx) := by
  unfold turnS
  split
  · split
    · rename_i a b _ hc
      simp only [Bool.and_eq_true] at hc
      have ea := eqStr_ok hc.1
      have eb := eqStr_ok hc.2
      subst ea
      subst eb
      split
      · rename_i x hx
        split
        · rename_i hsame
          intro K hK
          obtain ⟨m', h1, h2, h3⟩ := Tr.set_spec hK
          have hsf : Sat ρ (factsT n ++ pc) := fun e he => by
            rcases List.mem_append.1 he with he | he
            · exact factsT_ok h e he
            · exact hs e he
          refine ⟨(⟨.ag [.x .i64 (va 5), .x .i64 (.mk 0 [(5, 1), (9, 1)]), .s [.a 4]], m', nx, factsT n ++ pc⟩ : O4), CallR.again enterTurn (rsW_ok h) hsf hx hsame h2 fun θ w vs hvs => ?_, h1, fun K' hK' => h3 _ hK'⟩
          simp only [dens, den, was_den, now_den, Option.bind_some, Option.map_some, Option.some.injEq] at hvs
          subst hvs
          have k1 : (bstr (wasB n)).data.toList = wasB n := by simp [bstr]
          have k2 : (bstr (nowB n (ρ.s 0))).data.toList = nowB n (ρ.s 0) := by simp [bstr]
          have n8 := h.n8
          have hc10 := h.c
          have z1 : (bstr (wasB n)).size = 2 * n + 1 := by rw [bstr_size, was_len]
          have z2 : (bstr (nowB n (ρ.s 0))).size = 2 * n + (ρ.s 0).length := by rw [bstr_size, now_len]
          have hcall := turn_c (bstr (wasB n)) (bstr (nowB n (ρ.s 0))) w (by omega) (by omega)
          rw [k1, k2] at hcall
          refine ⟨.agg #[.int .i64 ((frF (wasB n) (nowB n (ρ.s 0)) : Nat) : Int), .int .i64 (((bstr (wasB n)).size : Int) - ((enF (wasB n) (nowB n (ρ.s 0)) : Nat) : Int)), .string ((bstr (nowB n (ρ.s 0))).extract (frF (wasB n) (nowB n (ρ.s 0))) ((bstr (nowB n (ρ.s 0))).size - enF (wasB n) (nowB n (ρ.s 0))))], ?_, hcall⟩
          have l1 : ρ.at 5 = ((ρ.s 1).length : Int) := ρ.at_l 1
          have l2 : ρ.at 9 = ((ρ.s 2).length : Int) := ρ.at_l 2
          have q1 := h.len1
          have q2 := h.len2
          have q3 := en_le1 (l := wasB n) (m := nowB n (ρ.s 0))
          have q4 := en_le2 (l := wasB n) (m := nowB n (ρ.s 0))
          rw [was_len] at q2 q3
          have e1 : (va 5).den ρ = ((frF (wasB n) (nowB n (ρ.s 0)) : Nat) : Int) := by simp only [va, Lin.den, dts, l1, q1]; omega
          have e2 : (Lin.mk 0 [(5, 1), (9, 1)]).den ρ = ((bstr (wasB n)).size : Int) - ((enF (wasB n) (nowB n (ρ.s 0)) : Nat) : Int) := by
            simp only [Lin.den, dts, l1, l2, q1, q2, z1]; omega
          have e3 : bstr (denS ρ [.a 4]) = (bstr (nowB n (ρ.s 0))).extract (frF (wasB n) (nowB n (ρ.s 0))) ((bstr (nowB n (ρ.s 0))).size - enF (wasB n) (nowB n (ρ.s 0))) := by
            rw [bstr_ext, bstr_size]
            have : denS ρ [.a 4] = ρ.s 4 := by simp [denS, Pc.den]
            rw [this, h.s4, midG]
            congr 2
            omega
          simp only [den, dens, e1, e2, e3, Option.bind_some, Option.map_some]
        · exact Yl.no
      · exact Yl.no
    · exact Yl.no
  · exact Yl.no
theorem tallyS_yl (h : RhoD n ρ) {args : List SV} (hs : Sat ρ pc) : Yl (fun K => tallyS args m nx pc fun v m nx pc => K ⟨v, m, nx, pc⟩) (CallR Tryz.prog ρ 250 args m nx) := by
  have call : ∀ {l : Str} {t1 t2 t3 : Int} {v : Nat}, (∀ w, Calls Tryz.prog 250 #[.string (bstr (denS ρ l))] w (fun e w' => e = .returned (.agg #[.int .i64 (denS ρ l).length, .int .i64 t1, .int .i64 t2, .int .i64 t3]) ∧ Ext none' w w')) → (va v).den ρ = t1 → (va (v + 2)).den ρ = t2 → (va (v + 4)).den ρ = t3 →
      CallR Tryz.prog ρ 250 [.s l] m nx ⟨tallyV l v, m, nx, pc⟩ := fun {l t1 t2 t3 v} hc e1 e2 e3 => CallR.pure enterTally hs fun θ w vs hvs => by
    simp only [dens, den, Option.bind_some, Option.map_some, Option.some.injEq] at hvs
    subst hvs
    refine ⟨_, ?_, hc w⟩
    simp only [tallyV, den, dens, lenS_den, e1, e2, e3, Option.bind_some, Option.map_some]
  have v (i : Nat) : (va (2 * i)).den ρ = ρ.v i := by simp [va, Lin.den, dts, Rho.at_v]
  unfold tallyS
  split
  · rename_i l
    split
    · rename_i hc
      simp only [Bool.and_eq_true] at hc
      have hx := notX_ok (proves_ok hc.1 hs)
      split
      · rename_i hl
        simp only [Bool.or_eq_true, Bool.and_eq_true] at hl
        have hl : denS ρ l = nowB n (ρ.s 0) := by
          rcases hl with ((h1 | ⟨h1, h2⟩) | ⟨h1, h2⟩) | ⟨h1, h2⟩
          · rw [eqStr_ok h1, ← h.now]; simp [denS, Pc.den]
          · have h3 := no0_nil (i := 3) (allP_ok hs h2 _ (by simp))
            rw [eqStr_ok h1, ← h.now]; simp [denS, Pc.den, h3]
          · have h3 := no0_nil (i := 2) (allP_ok hs h2 _ (by simp))
            rw [eqStr_ok h1, ← h.now]; simp [denS, Pc.den, h3]
          · have h3 := no0_nil (i := 2) (allP_ok hs h2 _ (by simp))
            have h4 := no0_nil (i := 3) (allP_ok hs h2 _ (by simp))
            rw [eqStr_ok h1, ← h.now]; simp [denS, Pc.den, h3, h4]
        refine Yl.pure (⟨tallyV l 30, m, nx, pc⟩ : O4) (call (t1 := ρ.v 15) (t2 := ρ.v 16) (t3 := ρ.v 17) (v := 30) ?_ (v 15) (v 16) (v 17))
        rw [hl]
        exact h.tN hx
      · split
        · rename_i hl
          simp only [Bool.and_eq_true] at hl
          have h2 := is1_ne (i := 2) (allP_ok hs hl.2 _ (by simp))
          have hl : denS ρ l = ρ.s 1 ++ ρ.s 3 := by rw [eqStr_ok hl.1]; simp [denS, Pc.den]
          refine Yl.pure (⟨tallyV l 40, m, nx, pc⟩ : O4) (call (t1 := ρ.v 20) (t2 := ρ.v 21) (t3 := ρ.v 22) (v := 40) ?_ (v 20) (v 21) (v 22))
          rw [hl]
          exact h.tM h2
        · exact Yl.no
    · exact Yl.no
  · exact Yl.no
theorem smS_ok (h : RhoD n ρ) : SumOk Tryz.prog ρ smS := fun f g hg args m nx pc hs => by
  unfold smS at hg
  split at hg
  · rename_i hf
    have := Nat.eq_of_beq_eq_true hf
    subst this
    cases hg
    exact sorted_yl hs
  · split at hg
    · rename_i hf
      have := Nat.eq_of_beq_eq_true hf
      subst this
      cases hg
      exact tallyS_yl h hs
    · cases hg
theorem smT_ok (h : RhoD n ρ) (hk : ks n = true) : SumOk Tryz.prog ρ (smT n) := fun f g hg args m nx pc hs => by
  unfold smT at hg
  split at hg
  · rename_i hf
    have := Nat.eq_of_beq_eq_true hf
    subst this
    cases hg
    exact sorted_yl hs
  · split at hg
    · rename_i hf
      have := Nat.eq_of_beq_eq_true hf
      subst this
      cases hg
      exact turnS_yl h hs
    · split at hg
      · rename_i hf
        have := Nat.eq_of_beq_eq_true hf
        subst this
        cases hg
        exact cutF_yl (rs0_ok ρ) (fun h0 => (cut_call mixedO (smS_ok h) (rsT_ok h) hk h0 h0).2) hs
      · cases hg

/-! ### Do -/
def CdOk (ρ : Rho) (c : Cd) : Prop := ∀ pc, Sat ρ pc → Sat ρ c.pc0 → ∃ m0, Told c.l0 m0 ∧ CallR Tryz.prog ρ 7 c.a0 m0 c.nx0 ⟨c.v1, mkU c.l1 .lf, c.nx1, [] ++ pc⟩
theorem kd_ok {sm : SumT} {rs : Rules} {c : Cd} (hsm : SumOk Tryz.prog ρ sm) (hr : RulesOk ρ rs) (hk : kd sm rs c = true) : CdOk ρ c := fun pc hs h0 => by
  obtain ⟨h1, h2⟩ := cut_call mixedO hsm hr hk hs h0
  exact ⟨_, h1, h2⟩
theorem all_cons {c : Cd} {l : List Cd} (h : CdOk ρ c) (t : ∀ x ∈ l, CdOk ρ x) : ∀ x ∈ c :: l, CdOk ρ x := List.forall_mem_cons.2 ⟨h, t⟩
theorem all_nil : ∀ x ∈ ([] : List Cd), CdOk ρ x := fun x h => by cases h
theorem doL_yl : ∀ {l : List Cd}, (∀ c ∈ l, CdOk ρ c) → ∀ {args : List SV} {m : Mem} {nx : Nat} {pc : PC}, Sat ρ pc → Yl (fun K => doL l args m nx pc fun v m nx pc => K ⟨v, m, nx, pc⟩) (CallR Tryz.prog ρ 7 args m nx)
  | [], _, args, m, nx, pc, _ => Yl.no
  | c :: l, hl, args, m, nx, pc, hs => by
    unfold doL
    split
    · exact cut_yl (rs0_ok ρ) (hl c (by simp)) hs
    · exact doL_yl (fun x hx => hl x (by simp [hx])) hs
theorem smM_ok (h : RhoD n ρ) (haw : ∀ w, Calls Tryz.prog 4 #[] w (fun e w' => e = .returned (.bool true) ∧ Ext none' w w')) (hl : ∀ c ∈ cutsN n, CdOk ρ c) : SumOk Tryz.prog ρ (smM n) := fun f g hg args m nx pc hs => by
  unfold smM at hg
  split at hg
  · rename_i hf
    have := Nat.eq_of_beq_eq_true hf
    subst this
    cases hg
    exact sorted_yl hs
  · split at hg
    · rename_i hf
      have := Nat.eq_of_beq_eq_true hf
      subst this
      cases hg
      exact awakeS_yl haw hs
    · split at hg
      · rename_i hf
        have := Nat.eq_of_beq_eq_true hf
        subst this
        cases hg
        exact lowS_yl h hs
      · split at hg
        · rename_i hf
          have := Nat.eq_of_beq_eq_true hf
          subst this
          cases hg
          exact doL_yl hl hs
        · cases hg
end

/-! ### The unknowns -/
theorem tf_ex : ∃ f : List UInt8 → Int × Int × Int, ∀ l : List UInt8, l.length ≤ 1000 → ∀ w, Calls Tryz.prog 250 #[.string (bstr l)] w (fun e w' => e = .returned (.agg #[.int .i64 l.length, .int .i64 (f l).1, .int .i64 (f l).2.1, .int .i64 (f l).2.2]) ∧ Ext none' w w') := by
  have : ∀ l : List UInt8, ∃ t : Int × Int × Int, l.length ≤ 1000 → ∀ w, Calls Tryz.prog 250 #[.string (bstr l)] w (fun e w' => e = .returned (.agg #[.int .i64 l.length, .int .i64 t.1, .int .i64 t.2.1, .int .i64 t.2.2]) ∧ Ext none' w w') := fun l => by
    by_cases h : l.length ≤ 1000
    · obtain ⟨t1, t2, t3, h1⟩ := tally_c l h
      exact ⟨(t1, t2, t3), fun _ => h1⟩
    · exact ⟨(0, 0, 0), fun h' => absurd h' h⟩
  exact ⟨fun l => (this l).choose, fun l => (this l).choose_spec⟩
theorem rho_ex (n : Nat) (x : Int) (c : List UInt8) (hn : n ≤ 8) (hc : c.length ≤ 10) (hx : lowF x 8 = (n - 1 : Nat)) : ∃ ρ : Rho, RhoD n ρ ∧ ρ.s 0 = c ∧ ρ.v 100 = x := by
  obtain ⟨f, hf⟩ := tf_ex
  let W := wasB n
  let Nw := nowB n c
  let A := W.take (frF W Nw)
  let B := midF W Nw
  let C := W.drop (W.length - enF W Nw)
  let T := midG W Nw
  let tf : List UInt8 → Int × Int × Int := fun l => if l = W then (0, 2 * n + 1, 2 * n + 1) else f l
  have hAC : (A ++ C).length ≤ 1000 := by
    have h1 : A.length ≤ W.length := by simp [A]; omega
    have h2 : C.length ≤ W.length := by simp [C]
    have h3 : W.length = 2 * n + 1 := was_len n
    rw [List.length_append]; omega
  have hNl : Nw.length ≤ 1000 := by
    have : Nw.length = 2 * n + c.length := now_len n c
    omega
  have hne : B ≠ [] → A ++ C ≠ W := fun hb he => by
    have h1 := congrArg List.length he
    have h2 : A ++ B ++ C = W := mid_was
    have h3 := congrArg List.length h2
    simp only [List.length_append] at h1 h3
    exact hb (List.eq_nil_of_length_eq_zero (by omega))
  refine ⟨⟨fun j => match j with
    | 15 => (tf Nw).1
    | 16 => (tf Nw).2.1
    | 17 => (tf Nw).2.2
    | 18 => if B = [] then (if T = [] then (p0N n : Int) else p1N n) else (if T = [] then (p1N n : Int) else p2N n)
    | 20 => (tf (A ++ C)).1
    | 21 => (tf (A ++ C)).2.1
    | 22 => (tf (A ++ C)).2.2
    | _ => x, fun j => match j with
    | 0 => c
    | 1 => A
    | 2 => B
    | 3 => C
    | 4 => T
    | _ => []⟩, ⟨hc, rfl, rfl, rfl, rfl, hn, fun hx => ?_, fun hx => ?_, fun hx => ?_, fun hx => ?_, rfl, hx⟩, rfl, rfl⟩
  · have hnw : ¬ Nw = W := fun e => hx (now_was.1 e)
    show ∀ w, Calls Tryz.prog 250 #[.string (bstr Nw)] w (fun e w' => e = .returned (.agg #[.int .i64 Nw.length, .int .i64 (tf Nw).1, .int .i64 (tf Nw).2.1, .int .i64 (tf Nw).2.2]) ∧ Ext none' w w')
    simp only [tf, if_neg hnw]
    exact hf Nw hNl
  · have hnw : Nw = W := now_was.2 hx
    show (tf Nw).1 = 0 ∧ (tf Nw).2.1 = 2 * n + 1 ∧ (tf Nw).2.2 = 2 * n + 1
    simp only [tf, if_pos hnw, and_self]
  · have hnw : ¬ A ++ C = W := hne hx
    show ∀ w, Calls Tryz.prog 250 #[.string (bstr (A ++ C))] w (fun e w' => e = .returned (.agg #[.int .i64 (A ++ C).length, .int .i64 (tf (A ++ C)).1, .int .i64 (tf (A ++ C)).2.1, .int .i64 (tf (A ++ C)).2.2]) ∧ Ext none' w w')
    simp only [tf, if_neg hnw]
    exact hf (A ++ C) hAC
  · have he : A ++ C = Nw := by
      have h2 : A ++ T ++ C = Nw := mid_now
      have h3 : T = [] := hx
      rw [h3, List.append_nil] at h2
      exact h2
    show (tf Nw).1 = (tf (A ++ C)).1 ∧ (tf Nw).2.1 = (tf (A ++ C)).2.1 ∧ (tf Nw).2.2 = (tf (A ++ C)).2.2
    rw [he]
    exact ⟨rfl, rfl, rfl⟩
end X
end Go.Proofs.YtjmnenjejgahjaaGreatDoor
