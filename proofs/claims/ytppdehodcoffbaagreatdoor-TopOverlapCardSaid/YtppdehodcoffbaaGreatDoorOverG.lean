/-
  TopOverlap answers true.
-/
import Derived.Test.YtppdehodcoffbaaGreatDoorOverF
import Derived.Test.YtppdehodcoffbaaGreatDoorOverK0
import Derived.Test.YtppdehodcoffbaaGreatDoorOverK1
import Derived.Test.YtppdehodcoffbaaGreatDoorBase8
set_option linter.unusedSimpArgs false
set_option linter.unusedVariables false
namespace Go.Proofs.YtppdehodcoffbaaGreatDoor
namespace X
open Go.RowKit B
theorem smO_ok {ρ : Rho} (hρ : RhoO ρ) : SumOk Tryz.prog ρ smO := fun f h hh args m nx pc hs => by
  unfold smO at hh
  split at hh <;> cases hh
  · exact sorted_yl hs
  · exact awakeS_yl awake_c hs
  · exact lowS_yl hρ hs
  · exact tallyS_yl hρ hs
theorem topOverlap_c (t : List UInt8) (x y z : Int) (out : Bool) (c : List UInt8) (w : World) : Calls Tryz.prog 3 #[.string (bstr t), .int .i64 x, .int .i64 y, .int .i64 z, .bool out, .string (bstr c)] w (fun e w' => e = .returned (.bool true) ∧ Ext none' w w') := by
  obtain ⟨ρ, hρ, e0, e1, e2, e3, e4⟩ := rho_ex t c x y z
  have hs : Sat ρ [va 1, va 5] := fun e he => by
    rcases List.mem_cons.1 he with rfl | he
    · rw [va_l]; omega
    · rcases List.mem_cons.1 he with rfl | he
      · have := ρ.at_l 1
        simp only [va, Lin.den, dts]
        rw [show ρ.at 5 = _ from this]; omega
      · cases he
  have hk : callBy Tryz.prog smO (ev Tryz.prog smO 1000000) 3 (argsO out) .lf 0 [va 1, va 5] isTrue = true := by
    cases out
    · exact top_f
    · exact top_t
  obtain ⟨r, hr, hv, _⟩ := callBy_ok mixedO (smO_ok hρ) 1000000 3 (argsO out) .lf 0 _ hs (fun r => isTrue r.v r.m r.nx r.pc) hk
  have hd : dens ρ (fun _ => none) (argsO out) = some [.string (bstr t), .int .i64 x, .int .i64 y, .int .i64 z, .bool out, .string (bstr c)] := by
    simp [argsO, dens, den, denS, Pc.den, e0, e1, va, Lin.den, dts, at6, at8, at10, e2, e3, e4]
  have hM : MemOk ρ (fun _ => none) (Tr.get (α := Blk) .lf) w := ⟨fun t b h => by simp [Tr.get] at h, fun x y g c c' h => by simp [Tr.get] at h⟩
  refine calls_mono (hr.run w _ _ hd hM fun t _ _ => rfl) fun e w' ⟨v, θ', h1, h2, h3⟩ => ⟨?_, h2.ext.mono fun g _ ⟨t, c, q, _⟩ => absurd rfl q⟩
  unfold isTrue at hv
  split at hv
  · rename_i hb
    rw [hb] at h3
    cases h3
    exact h1
  · cases hv
end X
end Go.Proofs.YtppdehodcoffbaaGreatDoor
