/-
  TopDeep answers true.
-/
import Derived.Test.YtjmnenjejgahjaaGreatDoorDpT
import Derived.Test.YtjmnenjejgahjaaGreatDoorBase8
import Derived.Test.YtjmnenjejgahjaaGreatDoorDpK0
import Derived.Test.YtjmnenjejgahjaaGreatDoorDpKa
import Derived.Test.YtjmnenjejgahjaaGreatDoorDpKb
import Derived.Test.YtjmnenjejgahjaaGreatDoorDpKc
import Derived.Test.YtjmnenjejgahjaaGreatDoorDpKd
import Derived.Test.YtjmnenjejgahjaaGreatDoorDpKe
import Derived.Test.YtjmnenjejgahjaaGreatDoorDpKf
import Derived.Test.YtjmnenjejgahjaaGreatDoorDpKh
import Derived.Test.YtjmnenjejgahjaaGreatDoorDpKi
import Derived.Test.YtjmnenjejgahjaaGreatDoorDpKj
set_option linter.unusedSimpArgs false
set_option linter.unusedVariables false
namespace Go.Proofs.YtjmnenjejgahjaaGreatDoor
namespace X
open Go.RowKit B
theorem true_run {ρ : Rho} {sm : SumT} {f : Nat} {args : List SV} {pc : PC} {vs : List Value} (hsm : SumOk Tryz.prog ρ sm) (hs : Sat ρ pc) (hk : callBy Tryz.prog sm (ev Tryz.prog sm 1000000) f args .lf 0 pc isTrue = true) (hd : dens ρ (fun _ => none) args = some vs) (w : World) :
    Calls Tryz.prog f vs.toArray w (fun e w' => e = .returned (.bool true) ∧ Ext none' w w') := by
  obtain ⟨r, hr, hv, _⟩ := callBy_ok mixedO hsm 1000000 f args .lf 0 pc hs (fun r => isTrue r.v r.m r.nx r.pc) hk
  have hM : MemOk ρ (fun _ => none) (Tr.get (α := Blk) .lf) w := ⟨fun t b h => by simp [Tr.get] at h, fun x y g c c' h => by simp [Tr.get] at h⟩
  refine calls_mono (hr.run w _ vs hd hM fun t _ _ => rfl) fun e w' ⟨v, θ', h1, h2, h3⟩ => ⟨?_, h2.ext.mono fun g _ ⟨t, c, q, _⟩ => absurd rfl q⟩
  unfold isTrue at hv
  split at hv
  · rename_i hb
    rw [hb] at h3
    cases h3
    exact h1
  · cases hv
theorem awake_c (w : World) : Calls Tryz.prog 4 #[] w (fun e w' => e = .returned (.bool true) ∧ Ext none' w w') :=
  true_run (ρ := ⟨fun _ => 0, fun _ => []⟩) (vs := []) (smI_ok _) (fun e h => by cases h) awake_k rfl w
/-! ### A text that is too long -/
def smA : SumT := fun f => match Nat.beq f 4 with
  | true => some awakeS
  | false => none
theorem smA_ok (ρ : Rho) : SumOk Tryz.prog ρ smA := fun f g hg args m nx pc hs => by
  unfold smA at hg
  split at hg
  · rename_i hf
    have := Nat.eq_of_beq_eq_true hf
    subst this
    cases hg
    exact awakeS_yl awake_c hs
  · cases hg
set_option maxRecDepth 1000000 in
theorem main0 : callBy Tryz.prog smA (ev Tryz.prog smA 1000000) 3 argsD .lf 0 [.mk (-11) [(1, 1)]] isTrue = true := by kernel_rfl
theorem args_den (ρ : Rho) : dens ρ (fun _ => none) argsD = some [.int .i64 (ρ.v 100), .string (bstr (ρ.s 0))] := by
  have e : (va 200).den ρ = ρ.v 100 := by simpa [va] using va_v' ρ 100
  simp [argsD, dens, den, e, denS, Pc.den]
theorem main_n {n : Nat} {ρ : Rho} (h : RhoD n ρ) (hk : callBy Tryz.prog (smM n) (ev Tryz.prog (smM n) 1000000) 3 argsD .lf 0 pcD isTrue = true) (hl : ∀ c ∈ cutsN n, CdOk ρ c) (w : World) :
    Calls Tryz.prog 3 #[.int .i64 (ρ.v 100), .string (bstr (ρ.s 0))] w (fun e w' => e = .returned (.bool true) ∧ Ext none' w w') := by
  refine true_run (smM_ok h awake_c hl) (fun e he => ?_) hk (args_den ρ) w
  have l0 : ρ.at 1 = ((ρ.s 0).length : Int) := ρ.at_l 0
  have := h.c
  simp only [pcD, List.mem_cons, List.not_mem_nil, or_false] at he
  rcases he with rfl | rfl
  · simp only [va, Lin.den, dts, l0]; omega
  · simp only [Lin.den, dts, l0]; omega
section
variable {ρ : Rho}
theorem iOk {c : Cd} (h : kd smI rs0 c = true) : CdOk ρ c := kd_ok (smI_ok ρ) (rs0_ok ρ) h
theorem cuts1 (h : RhoD 1 ρ) : ∀ c ∈ cutsN 1, CdOk ρ c := all_cons (iOk kI1) (all_cons (kd_ok (smT_ok h kS1) (rsT_ok h) kT1) (all_cons (iOk kN1_1) (all_cons (iOk kN1_2) (all_nil))))
theorem cuts2 (h : RhoD 2 ρ) : ∀ c ∈ cutsN 2, CdOk ρ c := all_cons (iOk kI1) (all_cons (iOk kI2) (all_cons (kd_ok (smT_ok h kS2) (rsT_ok h) kT2) (all_cons (iOk kN2_1) (all_cons (iOk kN2_2) (all_cons (iOk kN2_3) (all_nil))))))
theorem cuts3 (h : RhoD 3 ρ) : ∀ c ∈ cutsN 3, CdOk ρ c := all_cons (iOk kI1) (all_cons (iOk kI2) (all_cons (iOk kI3) (all_cons (kd_ok (smT_ok h kS3) (rsT_ok h) kT3) (all_cons (iOk kN3_1) (all_cons (iOk kN3_2) (all_cons (iOk kN3_3) (all_cons (iOk kN3_4) (all_nil))))))))
theorem cuts4 (h : RhoD 4 ρ) : ∀ c ∈ cutsN 4, CdOk ρ c := all_cons (iOk kI1) (all_cons (iOk kI2) (all_cons (iOk kI3) (all_cons (iOk kI4) (all_cons (kd_ok (smT_ok h kS4) (rsT_ok h) kT4) (all_cons (iOk kN4_1) (all_cons (iOk kN4_2) (all_cons (iOk kN4_3) (all_cons (iOk kN4_4) (all_cons (iOk kN4_5) (all_nil))))))))))
theorem cuts5 (h : RhoD 5 ρ) : ∀ c ∈ cutsN 5, CdOk ρ c := all_cons (iOk kI1) (all_cons (iOk kI2) (all_cons (iOk kI3) (all_cons (iOk kI4) (all_cons (iOk kI5) (all_cons (kd_ok (smT_ok h kS5) (rsT_ok h) kT5) (all_cons (iOk kN5_1) (all_cons (iOk kN5_2) (all_cons (iOk kN5_3) (all_cons (iOk kN5_4) (all_cons (iOk kN5_5) (all_cons (iOk kN5_6) (all_nil))))))))))))
theorem cuts6 (h : RhoD 6 ρ) : ∀ c ∈ cutsN 6, CdOk ρ c := all_cons (iOk kI1) (all_cons (iOk kI2) (all_cons (iOk kI3) (all_cons (iOk kI4) (all_cons (iOk kI5) (all_cons (iOk kI6) (all_cons (kd_ok (smT_ok h kS6) (rsT_ok h) kT6) (all_cons (iOk kN6_1) (all_cons (iOk kN6_2) (all_cons (iOk kN6_3) (all_cons (iOk kN6_4) (all_cons (iOk kN6_5) (all_cons (iOk kN6_6) (all_cons (iOk kN6_7) (all_nil))))))))))))))
theorem cuts7 (h : RhoD 7 ρ) : ∀ c ∈ cutsN 7, CdOk ρ c := all_cons (iOk kI1) (all_cons (iOk kI2) (all_cons (iOk kI3) (all_cons (iOk kI4) (all_cons (iOk kI5) (all_cons (iOk kI6) (all_cons (iOk kI7) (all_cons (kd_ok (smT_ok h kS7) (rsT_ok h) kT7) (all_cons (iOk kN7_1) (all_cons (iOk kN7_2) (all_cons (iOk kN7_3) (all_cons (iOk kN7_4) (all_cons (iOk kN7_5) (all_cons (iOk kN7_6) (all_cons (iOk kN7_7) (all_cons (iOk kN7_8) (all_nil))))))))))))))))
theorem cuts8 (h : RhoD 8 ρ) : ∀ c ∈ cutsN 8, CdOk ρ c := all_cons (iOk kI1) (all_cons (iOk kI2) (all_cons (iOk kI3) (all_cons (iOk kI4) (all_cons (iOk kI5) (all_cons (iOk kI6) (all_cons (iOk kI7) (all_cons (iOk kI8) (all_cons (kd_ok (smT_ok h kS8) (rsT_ok h) kT8) (all_cons (iOk kN8_1) (all_cons (iOk kN8_2) (all_cons (iOk kN8_3) (all_cons (iOk kN8_4) (all_cons (iOk kN8_5) (all_cons (iOk kN8_6) (all_cons (iOk kN8_7) (all_cons (iOk kN8_8) (all_cons (iOk kN8_9) (all_nil))))))))))))))))))
end
theorem topDeep_c (x : Int) (c : List UInt8) (w : World) : Calls Tryz.prog 3 #[.int .i64 x, .string (bstr c)] w (fun e w' => e = .returned (.bool true) ∧ Ext none' w w') := by
  by_cases hc : c.length ≤ 10
  · obtain ⟨b1, b2⟩ := lowF_ok (x := x) (n := 8) (by omega)
    have key : ∀ n : Nat, n ≤ 8 → lowF x 8 = (n - 1 : Nat) → (∀ ρ : Rho, RhoD n ρ → Calls Tryz.prog 3 #[.int .i64 (ρ.v 100), .string (bstr (ρ.s 0))] w (fun e w' => e = .returned (.bool true) ∧ Ext none' w w')) → Calls Tryz.prog 3 #[.int .i64 x, .string (bstr c)] w (fun e w' => e = .returned (.bool true) ∧ Ext none' w w') := fun n hn hx hk => by
      obtain ⟨ρ, h, e1, e2⟩ := rho_ex n x c hn hc hx
      have := hk ρ h
      rw [e1, e2] at this
      exact this
    have hcase : lowF x 8 = 0 ∨ lowF x 8 = 1 ∨ lowF x 8 = 2 ∨ lowF x 8 = 3 ∨ lowF x 8 = 4 ∨ lowF x 8 = 5 ∨ lowF x 8 = 6 ∨ lowF x 8 = 7 := by omega
    rcases hcase with e | e | e | e | e | e | e | e
    · exact key 1 (by omega) e fun ρ h => main_n h main1 (cuts1 h) w
    · exact key 2 (by omega) e fun ρ h => main_n h main2 (cuts2 h) w
    · exact key 3 (by omega) e fun ρ h => main_n h main3 (cuts3 h) w
    · exact key 4 (by omega) e fun ρ h => main_n h main4 (cuts4 h) w
    · exact key 5 (by omega) e fun ρ h => main_n h main5 (cuts5 h) w
    · exact key 6 (by omega) e fun ρ h => main_n h main6 (cuts6 h) w
    · exact key 7 (by omega) e fun ρ h => main_n h main7 (cuts7 h) w
    · exact key 8 (by omega) e fun ρ h => main_n h main8 (cuts8 h) w
  · let ρ : Rho := ⟨fun _ => x, fun _ => c⟩
    refine true_run (ρ := ρ) (smA_ok ρ) (fun e he => ?_) main0 (args_den ρ) w
    have l0 : ρ.at 1 = (c.length : Int) := ρ.at_l 0
    simp only [List.mem_cons, List.not_mem_nil, or_false] at he
    subst he
    simp only [Lin.den, dts, l0]; omega
end X
end Go.Proofs.YtjmnenjejgahjaaGreatDoor
