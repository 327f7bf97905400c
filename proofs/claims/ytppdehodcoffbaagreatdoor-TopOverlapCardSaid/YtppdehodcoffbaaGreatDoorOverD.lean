/-
  TopOverlap: Low, tally.Of, awake, as the executor calls them.
-/
import Derived.Test.YtppdehodcoffbaaGreatDoorOverC
set_option linter.unusedSimpArgs false
set_option linter.unusedVariables false
namespace Go.Proofs.YtppdehodcoffbaaGreatDoor
namespace X
open Go.RowKit B

section
variable {P : Program} {ρ : Rho} {m : Mem} {nx : Nat} {pc : PC}
theorem SP.still {θ : Th} {R : Nat → Option Blk} {w w' : World} (h : MemOk ρ θ R w) (hx : Ext none' w w') : SP ρ nx nx θ R w θ R w' :=
  ⟨ThLe.refl _, fun t ht => .inl ht, ⟨fun t b hb => (h.holds t b hb).keep (ThLe.refl _) hx fun _ _ _ h => h, h.inj⟩, hx.mono fun _ _ h => h.elim, fun g hg => .inl hg⟩
theorem CallR.pure {f : Nat} {args : List SV} {v : SV} {pc' : PC} (he : ∀ args w, (callFunc f args).run P w = .ok (.enter f args) w) (hs : Sat ρ pc') (h : ∀ (θ : Th) (w : World) (vs : List Value), dens ρ θ args = some vs → ∃ u, den ρ θ v = some u ∧ Calls P f vs.toArray w (fun e w' => e = .returned u ∧ Ext none' w w')) : CallR P ρ f args m nx ⟨v, m, nx, pc'⟩ :=
  ⟨he, hs, Nat.le_refl _, fun t h1 h2 => absurd h1 h2, fun w θ vs hvs hM _ => by
    obtain ⟨u, h1, h2⟩ := h θ w vs hvs
    exact calls_mono h2 fun e w' ⟨e1, e2⟩ => ⟨u, θ, e1, SP.still hM e2, h1⟩⟩
end
theorem enter7 (args : Array Value) (w : World) : (callFunc 7 args).run Tryz.prog w = .ok (.enter 7 args) w := enter_run (fn := Tryz.f7) (by kernel_rfl) (by kernel_rfl) rfl args w
theorem enter4 (args : Array Value) (w : World) : (callFunc 4 args).run Tryz.prog w = .ok (.enter 4 args) w := enter_run (fn := Tryz.f4) (by kernel_rfl) (by kernel_rfl) rfl args w
theorem enter235 (args : Array Value) (w : World) : (callFunc 235 args).run Tryz.prog w = .ok (.enter 235 args) w := enter_run (fn := Tryz.f235) (by kernel_rfl) (by kernel_rfl) rfl args w
theorem va_v (ρ : Rho) (i : Nat) : (va (2 * i)).den ρ = ρ.v i := by simp [va, Lin.den, dts, Rho.at_v]
theorem va_l (ρ : Rho) : (va 1).den ρ = ((ρ.s 0).length : Int) := by
  have := ρ.at_l 0
  simp [va, Lin.den, dts]
  exact this
/-- what the unknowns are -/
structure RhoO (ρ : Rho) : Prop where
  l0 : ρ.v 0 = lowF (ρ.v 3) ((ρ.s 0).length - 2)
  l1 : ρ.v 1 = lowF (ρ.v 4) 2
  l2 : ρ.v 2 = lowF (ρ.v 5) 2
  tl : (ρ.s 0).length ≤ 1000 → ∀ w, Calls Tryz.prog 235 #[.string (bstr (ρ.s 0))] w (fun e w' => e = .returned (.agg #[.int .i64 (ρ.s 0).length, .int .i64 (ρ.v 6), .int .i64 (ρ.v 7), .int .i64 (ρ.v 8)]) ∧ Ext none' w w')
section
variable {ρ : Rho} {m : Mem} {nx : Nat} {pc : PC}
theorem low_call {a k : SV} {r : Lin} {x n : Int} (hs : Sat ρ pc) (ha : ∀ θ, den ρ θ a = some (.int .i64 x)) (hk : ∀ θ, den ρ θ k = some (.int .i64 n)) (hr : r.den ρ = lowF x n) (hn : 0 < n) (hn2 : n ≤ 9223372036854775807) : CallR Tryz.prog ρ 7 [a, k] m nx ⟨.x .i64 r, m, nx, pc⟩ :=
  CallR.pure enter7 hs fun θ w vs hvs => by
    simp only [dens, ha, hk, Option.bind_some, Option.map_some, Option.some.injEq] at hvs
    subst hvs
    refine ⟨.int .i64 (lowF x n), by simp [den, hr], calls_mono (low_c x n w hn hn2) fun e w' ⟨h1, h2⟩ => ⟨h1, by rw [h2]; exact Ext.refl _ _⟩⟩
theorem sat2 {a b : Lin} (hs : Sat ρ pc) (ha : 0 ≤ a.den ρ) (hb : 0 ≤ b.den ρ) : Sat ρ (a :: b :: pc) := fun e he => by
  rcases List.mem_cons.1 he with rfl | he
  · exact ha
  · rcases List.mem_cons.1 he with rfl | he
    · exact hb
    · exact hs e he
theorem at0 (ρ : Rho) : ρ.at 0 = ρ.v 0 := ρ.at_v 0
theorem at1 (ρ : Rho) : ρ.at 1 = ((ρ.s 0).length : Int) := ρ.at_l 0
theorem at2 (ρ : Rho) : ρ.at 2 = ρ.v 1 := ρ.at_v 1
theorem at4 (ρ : Rho) : ρ.at 4 = ρ.v 2 := ρ.at_v 2
theorem at6 (ρ : Rho) : ρ.at 6 = ρ.v 3 := ρ.at_v 3
theorem at8 (ρ : Rho) : ρ.at 8 = ρ.v 4 := ρ.at_v 4
theorem at10 (ρ : Rho) : ρ.at 10 = ρ.v 5 := ρ.at_v 5
theorem at12 (ρ : Rho) : ρ.at 12 = ρ.v 6 := ρ.at_v 6
theorem at14 (ρ : Rho) : ρ.at 14 = ρ.v 7 := ρ.at_v 7
theorem at16 (ρ : Rho) : ρ.at 16 = ρ.v 8 := ρ.at_v 8
theorem lowS_yl (hρ : RhoO ρ) {args : List SV} (hs : Sat ρ pc) : Yl (fun K => lowS args m nx pc fun v m nx pc => K ⟨v, m, nx, pc⟩) (CallR Tryz.prog ρ 7 args m nx) := by
  unfold lowS
  split
  · split
    · rename_i hc
      simp only [Bool.and_eq_true] at hc
      have h1 := proves_ok hc.1 hs
      have h2 := proves_ok hc.2 hs
      simp only [Lin.den, dts, at1] at h1 h2
      have hn : 0 < ((ρ.s 0).length : Int) - 2 := by omega
      obtain ⟨b1, b2⟩ := lowF_ok (x := ρ.v 3) hn
      refine Yl.pure (⟨.x .i64 (va 0), m, nx, va 0 :: .mk (-3) [(0, -1), (1, 1)] :: pc⟩ : O4) (low_call (x := ρ.v 3) (n := (ρ.s 0).length - 2) (sat2 hs ?_ ?_) (fun θ => ?_) (fun θ => ?_) ?_ hn (by omega))
      · simp only [va, Lin.den, dts, at0, hρ.l0]; omega
      · simp only [Lin.den, dts, at0, at1, hρ.l0]; omega
      · simp [den, Lin.den, dts, at6]
      · simp only [den, Lin.den, dts, at1, Option.some.injEq, Value.int.injEq, true_and]; omega
      · simp [va, Lin.den, dts, at0, hρ.l0]
    · exact Yl.no
  · obtain ⟨b1, b2⟩ := lowF_ok (x := ρ.v 4) (n := 2) (by omega)
    refine Yl.pure (⟨.x .i64 (va 2), m, nx, va 2 :: .mk 1 [(2, -1)] :: pc⟩ : O4) (low_call (x := ρ.v 4) (n := 2) (sat2 hs ?_ ?_) (fun θ => ?_) (fun θ => rfl) ?_ (by omega) (by omega))
    · simp only [va, Lin.den, dts, at2, hρ.l1]; omega
    · simp only [Lin.den, dts, at2, hρ.l1]; omega
    · simp [den, Lin.den, dts, at8]
    · simp [va, Lin.den, dts, at2, hρ.l1]
  · obtain ⟨b1, b2⟩ := lowF_ok (x := ρ.v 5) (n := 2) (by omega)
    refine Yl.pure (⟨.x .i64 (va 4), m, nx, va 4 :: .mk 1 [(4, -1)] :: pc⟩ : O4) (low_call (x := ρ.v 5) (n := 2) (sat2 hs ?_ ?_) (fun θ => ?_) (fun θ => rfl) ?_ (by omega) (by omega))
    · simp only [va, Lin.den, dts, at4, hρ.l2]; omega
    · simp only [Lin.den, dts, at4, hρ.l2]; omega
    · simp [den, Lin.den, dts, at10]
    · simp [va, Lin.den, dts, at4, hρ.l2]
  · exact Yl.no
theorem tallyS_yl (hρ : RhoO ρ) {args : List SV} (hs : Sat ρ pc) : Yl (fun K => tallyS args m nx pc fun v m nx pc => K ⟨v, m, nx, pc⟩) (CallR Tryz.prog ρ 235 args m nx) := by
  unfold tallyS
  split
  · split
    · rename_i hc
      have h1 := proves_ok hc hs
      simp only [Lin.den, dts, at1] at h1
      refine Yl.pure (⟨.ag [.x .i64 (va 1), .x .i64 (va 12), .x .i64 (va 14), .x .i64 (va 16)], m, nx, pc⟩ : O4) (CallR.pure enter235 hs fun θ w vs hvs => ?_)
      simp only [dens, den, denS, Pc.den, List.flatMap_cons, List.flatMap_nil, List.append_nil, Option.bind_some, Option.map_some, Option.some.injEq] at hvs
      subst hvs
      refine ⟨_, ?_, hρ.tl (by omega) w⟩
      simp [den, dens, va, Lin.den, dts, at1, at12, at14, at16]
    · exact Yl.no
  · exact Yl.no
theorem awakeS_yl (haw : ∀ w, Calls Tryz.prog 4 #[] w (fun e w' => e = .returned (.bool true) ∧ Ext none' w w')) {args : List SV} (hs : Sat ρ pc) : Yl (fun K => awakeS args m nx pc fun v m nx pc => K ⟨v, m, nx, pc⟩) (CallR Tryz.prog ρ 4 args m nx) := by
  unfold awakeS
  split
  · refine Yl.pure (⟨.b true, m, nx, pc⟩ : O4) (CallR.pure enter4 hs fun θ w vs hvs => ?_)
    cases hvs
    exact ⟨_, rfl, haw w⟩
  · exact Yl.no
/-- the unknowns, of the arguments -/
theorem rho_ex (t c : List UInt8) (x y z : Int) : ∃ ρ : Rho, RhoO ρ ∧ ρ.s 0 = t ∧ ρ.s 1 = c ∧ ρ.v 3 = x ∧ ρ.v 4 = y ∧ ρ.v 5 = z := by
  have : ∃ t1 t2 t3 : Int, t.length ≤ 1000 → ∀ w, Calls Tryz.prog 235 #[.string (bstr t)] w (fun e w' => e = .returned (.agg #[.int .i64 t.length, .int .i64 t1, .int .i64 t2, .int .i64 t3]) ∧ Ext none' w w') := by
    by_cases h : t.length ≤ 1000
    · obtain ⟨t1, t2, t3, h1⟩ := tally_c t h
      exact ⟨t1, t2, t3, fun _ => h1⟩
    · exact ⟨0, 0, 0, fun h' => absurd h' h⟩
  obtain ⟨t1, t2, t3, h⟩ := this
  exact ⟨⟨fun j => match j with
    | 0 => lowF x (t.length - 2)
    | 1 => lowF y 2
    | 2 => lowF z 2
    | 3 => x
    | 4 => y
    | 5 => z
    | 6 => t1
    | 7 => t2
    | _ => t3, fun j => match j with
    | 0 => t
    | _ => c⟩, ⟨rfl, rfl, rfl, h⟩, rfl, rfl, rfl, rfl, rfl⟩
end
end X
end Go.Proofs.YtppdehodcoffbaaGreatDoor
