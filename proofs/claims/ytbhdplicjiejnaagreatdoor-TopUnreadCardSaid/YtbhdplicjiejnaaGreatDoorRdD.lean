/-
  Calls that leave memory as it is; unknowns. Over any program.
-/
import Derived.Test.YtbhdplicjiejnaaGreatDoorW8
set_option linter.unusedSimpArgs false
set_option linter.unusedVariables false
namespace Go.Proofs.YtbhdplicjiejnaaGreatDoor
namespace X
open Go.RowKit B

section
variable {P : Program} {ρ : Rho} {m : Mem} {nx : Nat} {pc : PC}
theorem SP.still {θ : Th} {R : Nat → Option Blk} {w w' : World} (h : MemOk ρ θ R w) (hx : Ext none' w w') : SP ρ nx nx θ R w θ R w' :=
  ⟨ThLe.refl _, fun t ht => .inl ht, ⟨fun t b hb => (h.holds t b hb).keep (ThLe.refl _) hx fun _ _ _ h => h, h.inj⟩, hx.mono fun _ _ h => h.elim, fun g hg => .inl hg⟩
theorem CallR.pure {f : Nat} {args : List SV} {v : SV} {pc' : PC} (he : ∀ args w, (callFunc f args).run P w = .ok (.enter f args) w) (hs : Sat ρ pc') (h : ∀ (θ : Th) (w : World) (vs : List Value), dens ρ θ args = some vs → ∃ u, den ρ θ v = some u ∧ Calls P f vs.toArray w (fun e w' => e = .returned u ∧ Ext none' w w')) : CallR P ρ f args m nx ⟨v, m, nx, pc'⟩ :=
  ⟨he, hs, Nat.le_refl _, fun t h1 h2 => absurd h1 h2, fun w θ vs hvs hM _ => by
    obtain ⟨u, h1, h2⟩ := h θ w vs hvs
    exact calls_mono h2 fun e w' ⟨e1, e2⟩ => ⟨u, θ, e1, SP.still hM e2, h1⟩⟩
/-- such a call, and a block is told anew -/
theorem CallR.again {f : Nat} {args : List SV} {v : SV} {pc' : PC} {rs : Rules} {m' : Mem} {t : Nat} {b b' : Blk} (he : ∀ args w, (callFunc f args).run P w = .ok (.enter f args) w) (hr : RulesOk ρ rs) (hs : Sat ρ pc') (hb : m.get t = some b) (hsame : sameB [] (Nat.succ t) rs pc' b' b = true)
    (hm' : ∀ j, m'.get j = if j = t then some b' else m.get j) (h : ∀ (θ : Th) (w : World) (vs : List Value), dens ρ θ args = some vs → ∃ u, den ρ θ v = some u ∧ Calls P f vs.toArray w (fun e w' => e = .returned u ∧ Ext none' w w')) : CallR P ρ f args m nx ⟨v, m', nx, pc'⟩ := by
  have hne : ∀ j, m'.get j ≠ none ↔ m.get j ≠ none := fun j => by
    rw [hm']; split
    · rename_i e; subst e; simp [hb]
    · exact Iff.rfl
  refine ⟨he, hs, Nat.le_refl _, fun j h1 h2 => absurd h1 ((hne j).1 h2), fun w θ vs hvs hM _ => ?_⟩
  obtain ⟨u, h1, h2⟩ := h θ w vs hvs
  refine calls_mono h2 fun e w' ⟨e1, e2⟩ => ⟨u, θ, e1, ?_, h1⟩
  have hk := (SP.still (nx := nx) hM e2).mem
  refine ⟨ThLe.refl _, fun t ht => .inl ht, ⟨fun j b2 hj => ?_, fun x y g c c' hx hy => hk.inj x y g c c' ((hne x).1 hx) ((hne y).1 hy)⟩, e2.mono fun _ _ h => h.elim, fun g ⟨j, c, q1, q2⟩ => .inl ⟨j, c, (hne j).1 q1, q2⟩⟩
  rw [hm'] at hj
  split at hj
  · rename_i e
    subst e
    cases hj
    exact sameB_ok hs hr tagsOk_id rfl hsame (hk.holds j b hb)
  · exact hk.holds j b2 hj
end
theorem va_v' (ρ : Rho) (i : Nat) : (Lin.mk 0 [(2 * i, 1)]).den ρ = ρ.v i := by simp [Lin.den, dts, Rho.at_v]
theorem va_l' (ρ : Rho) (i : Nat) : (Lin.mk 0 [(4 * i + 1, 1)]).den ρ = ((ρ.s i).length : Int) := by simp [Lin.den, dts, Rho.at_l]
end X
end Go.Proofs.YtbhdplicjiejnaaGreatDoor
