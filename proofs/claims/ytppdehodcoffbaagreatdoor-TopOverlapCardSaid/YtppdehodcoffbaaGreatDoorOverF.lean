/-
  awake answers true.
-/
import Derived.Test.YtppdehodcoffbaaGreatDoorOverE
import Derived.Test.YtppdehodcoffbaaGreatDoorOverK2
set_option linter.unusedSimpArgs false
set_option linter.unusedVariables false
namespace Go.Proofs.YtppdehodcoffbaaGreatDoor
namespace X
open Go.RowKit B
theorem sm0_ok (ρ : Rho) : SumOk Tryz.prog ρ sm0 := fun f h hh args m nx pc hs => by
  unfold sm0 at hh
  split at hh
  · rename_i hf
    have := Nat.eq_of_beq_eq_true hf
    subst this
    cases hh
    exact sorted_yl hs
  · cases hh
theorem awake_c (w : World) : Calls Tryz.prog 4 #[] w (fun e w' => e = .returned (.bool true) ∧ Ext none' w w') := by
  let ρ : Rho := ⟨fun _ => 0, fun _ => []⟩
  obtain ⟨r, hr, hv, _⟩ := callBy_ok mixedO (sm0_ok ρ) 1000000 4 [] .lf 0 [] (fun e h => by cases h) (fun r => isTrue r.v r.m r.nx r.pc) awake_k
  have hM : MemOk ρ (fun _ => none) (Tr.get (α := Blk) .lf) w := ⟨fun t b h => by simp [Tr.get] at h, fun x y g c c' h => by simp [Tr.get] at h⟩
  refine calls_mono (hr.run w _ [] rfl hM fun t _ _ => rfl) fun e w' ⟨v, θ', h1, h2, h3⟩ => ⟨?_, h2.ext.mono fun g _ ⟨t, c, q, _⟩ => absurd rfl q⟩
  unfold isTrue at hv
  split at hv
  · rename_i hb
    rw [hb] at h3
    cases h3
    exact h1
  · cases hv
end X
end Go.Proofs.YtppdehodcoffbaaGreatDoor
