/-
  TopPlainText: what is told of the calls below crew.Insert and follow.Do holds.
-/
import Derived.Test.YtdbchpoaoghgpaaGreatDoorP4
import Derived.Test.YtdbchpoaoghgpaaGreatDoorPnL
import Derived.Test.YtdbchpoaoghgpaaGreatDoorP5
import Derived.Test.YtdbchpoaoghgpaaGreatDoorPnKd1
import Derived.Test.YtdbchpoaoghgpaaGreatDoorPnKd2
import Derived.Test.YtdbchpoaoghgpaaGreatDoorPnKd3
import Derived.Test.YtdbchpoaoghgpaaGreatDoorPnKd4
import Derived.Test.YtdbchpoaoghgpaaGreatDoorPnKd5
import Derived.Test.YtdbchpoaoghgpaaGreatDoorPnKd6
import Derived.Test.YtdbchpoaoghgpaaGreatDoorPnKd7
set_option linter.unusedSimpArgs false
set_option linter.unusedVariables false
namespace Go.Proofs.YtdbchpoaoghgpaaGreatDoor
namespace X
open Go.RowKit B
set_option maxRecDepth 1000000

/-! ### Span -/
theorem span_k : runK (go smZ 81) kSpan.a0 kSpan.l0 kSpan.pc0 rSpan kSpan = true := by kernel_rfl
section
variable {ρ : Rho} {g : Nat}
theorem lvE {ρ : Rho} (i : Nat) : (Lin.mk 0 [(2 * i, 1)]).den ρ = ρ.v i := lv_v i
theorem kSpan_ok (h1 : ρ.v 4502 = min (ρ.v 4500) (ρ.v 4501)) (h2 : ρ.v 4503 = max (ρ.v 4500) (ρ.v 4501)) : KnownOk Tryz.prog 81 kSpan ρ := by
  have a0 : ρ.at 9000 = ρ.v 4500 := ρ.at_v 4500
  have a1 : ρ.at 9002 = ρ.v 4501 := ρ.at_v 4501
  have n0 : (lv 9000).den ρ = ρ.v 4500 := lv_v 4500
  have n1 : (lv 9002).den ρ = ρ.v 4501 := lv_v 4501
  have n2 : (lv 9004).den ρ = ρ.v 4502 := lv_v 4502
  have n3 : (lv 9006).den ρ = ρ.v 4503 := lv_v 4503
  have up : ∀ hg : Sat ρ [.mk 0 [(9000, -1), (9002, 1)]], ρ.v 4500 ≤ ρ.v 4501 := fun hg => by
    have := hg _ List.mem_cons_self
    simp only [Lin.den, dts, a0, a1] at this; omega
  have dn : ∀ hg : Sat ρ [.mk (-1) [(9000, 1), (9002, -1)]], ρ.v 4501 < ρ.v 4500 := fun hg => by
    have := hg _ List.mem_cons_self
    simp only [Lin.den, dts, a0, a1] at this; omega
  exact known_r (callBy_c mixJ (smZ_ok ρ)) (rules_ok (rs := rSpan) trivial ⟨fun hg => by have := up hg; rw [n2, n0, h1]; omega, fun hg => by have := dn hg; rw [n2, n1, h1]; omega, fun hg => by have := up hg; rw [n3, n1, h2]; omega, fun hg => by have := dn hg; rw [n3, n0, h2]; omega, trivial⟩) (fun h => h) span_k (by kernel_rfl)
/-! ### What order sorts by -/
noncomputable def smCm : SumT := withF 81 spanC smZ
theorem cmp_k0 : runK (go smCm 133) cmpA [] cP0 rN (kCmp cP0 (-1)) = true := by kernel_rfl
theorem cmp_k1 : runK (go smCm 133) cmpA [] cP1 rN (kCmp cP1 1) = true := by kernel_rfl
theorem cmp_k2 : runK (go smCm 133) cmpA [] cP2 rN (kCmp cP2 (-1)) = true := by kernel_rfl
theorem cmp_k3 : runK (go smCm 133) cmpA [] cP3 rN (kCmp cP3 1) = true := by kernel_rfl
theorem cmp_k4 : runK (go smCm 133) cmpA [] cP4 rN (kCmp cP4 0) = true := by kernel_rfl
structure CmpR (ρ : Rho) : Prop where
  a : ρ.v 4504 = min (ρ.v 4500) (ρ.v 4501)
  b : ρ.v 4505 = max (ρ.v 4500) (ρ.v 4501)
  c : ρ.v 4506 = min (ρ.v 4502) (ρ.v 4503)
  d : ρ.v 4507 = max (ρ.v 4502) (ρ.v 4503)
theorem smCm_ok (h : CmpR ρ) : SumOk Tryz.prog ρ smCm := withF_ok (smZ_ok ρ) fun args m nx pc hs => by
  unfold spanC
  split
  · refine cutP_ok rN_ok (kSpan_ok ?_ ?_) _ m nx pc hs
    · show (lv (2 * 4504)).den ρ = min ((lv (2 * 4500)).den ρ) ((lv (2 * 4501)).den ρ)
      rw [lv_v, lv_v, lv_v]; exact h.a
    · show (lv (2 * 4505)).den ρ = max ((lv (2 * 4500)).den ρ) ((lv (2 * 4501)).den ρ)
      rw [lv_v, lv_v, lv_v]; exact h.b
  · refine cutP_ok rN_ok (kSpan_ok ?_ ?_) _ m nx pc hs
    · show (lv (2 * 4506)).den ρ = min ((lv (2 * 4502)).den ρ) ((lv (2 * 4503)).den ρ)
      rw [lv_v, lv_v, lv_v]; exact h.c
    · show (lv (2 * 4507)).den ρ = max ((lv (2 * 4502)).den ρ) ((lv (2 * 4503)).den ρ)
      rw [lv_v, lv_v, lv_v]; exact h.d
  · exact Yl.no
theorem kCmp_ok (h : CmpR ρ) {p : PC} {n : Int} (hk : runK (go smCm 133) cmpA [] p rN (kCmp p n) = true) (hb : (sameVs [] 0 rN p cmpA cmpA && mkK [] .lf (fun m => subML [] 0 rN p [] m)) = true) : KnownOk Tryz.prog 133 (kCmp p n) ρ :=
  known_r (callBy_c mixJ (smCm_ok h)) rN_ok (fun h => h) hk hb
/-! ### Move -/
theorem mv_k1 : runK (go smZ 175) (kMv true mP1 (lv 9000)).a0 mvL (kMv true mP1 (lv 9000)).pc0 rN (kMv true mP1 (lv 9000)) = true := by kernel_rfl
theorem mv_k2 : runK (go smZ 175) (kMv false mP1 (lv 9000)).a0 mvL (kMv false mP1 (lv 9000)).pc0 rN (kMv false mP1 (lv 9000)) = true := by kernel_rfl
theorem mv_k3 : runK (go smZ 175) (kMv true mP2 mV2).a0 mvL (kMv true mP2 mV2).pc0 rN (kMv true mP2 mV2) = true := by kernel_rfl
theorem mv_k4 : runK (go smZ 175) (kMv false mP2 mV2).a0 mvL (kMv false mP2 mV2).pc0 rN (kMv false mP2 mV2) = true := by kernel_rfl
theorem mv_k5 : runK (go smZ 175) (kMv true mP3 mV3).a0 mvL (kMv true mP3 mV3).pc0 rN (kMv true mP3 mV3) = true := by kernel_rfl
theorem mv_k6 : runK (go smZ 175) (kMv false mP3 (lv 9002)).a0 mvL (kMv false mP3 (lv 9002)).pc0 rN (kMv false mP3 (lv 9002)) = true := by kernel_rfl
theorem kMv_ok (ρ : Rho) {r : Bool} {p : PC} {v : Lin} (hk : runK (go smZ 175) (kMv r p v).a0 mvL (kMv r p v).pc0 rN (kMv r p v) = true) : KnownOk Tryz.prog 175 (kMv r p v) ρ := known_of mixJ (smZ_ok ρ) rN_ok hk
theorem noS_ok {P : Program} {f : Nat} : CallY P ρ f noS := fun _ _ _ _ _ => Yl.no
theorem dec_y {P : Program} {f : Nat} {e : Lin} {args : List SV} {m : Mem} {nx : Nat} {pc : PC} {G : Bool → PC → (SV → Mem → Nat → PC → Bool) → Bool} (hs : Sat ρ pc) (h : ∀ b pc, Sat ρ pc → Yl (fun K => G b pc fun v m nx pc => K ⟨v, m, nx, pc⟩) (CallR P ρ f args m nx)) :
    Yl (fun K => dec2 pc e fun b pc => G b pc fun v m nx pc => K ⟨v, m, nx, pc⟩) (CallR P ρ f args m nx) :=
  Yl.bind (α := Bool × PC) (β := O4) (F := fun K => dec2 pc e fun b pc => K (b, pc)) (G := fun r K => G r.1 r.2 fun v m nx pc => K ⟨v, m, nx, pc⟩) (dec2_yl hs) fun r hr => h r.1 r.2 hr.2
theorem moveD_ok : CallY Tryz.prog ρ 175 (moveD noS) := fun args m nx pc hs => by
  unfold moveD
  split
  · rename_i v r e
    split
    · rename_i x ty fv tv tx hx hm
      split
      · rename_i f1 t1 hf ht
        refine dec_y (G := fun q pc K => match q with
          | true => cutP rN (kMv r mP1 (lv 9000)) (τM x f1 t1 tx) [v, .b r, .sl e 0 1 (.k 1)] m nx pc K
          | false => dec2 pc (gt x t1) fun q pc => match q with
            | true => cutP rN (kMv r mP2 mV2) (τM x f1 t1 tx) [v, .b r, .sl e 0 1 (.k 1)] m nx pc K
            | false => match r with
              | true => cutP rN (kMv true mP3 mV3) (τM x f1 t1 tx) [v, .b r, .sl e 0 1 (.k 1)] m nx pc K
              | false => cutP rN (kMv false mP3 (lv 9002)) (τM x f1 t1 tx) [v, .b r, .sl e 0 1 (.k 1)] m nx pc K) hs fun b pc hs => ?_
        cases b with
        | true => cases r with
          | true => exact cutP_ok rN_ok (kMv_ok _ mv_k1) _ m nx pc hs
          | false => exact cutP_ok rN_ok (kMv_ok _ mv_k2) _ m nx pc hs
        | false =>
          refine dec_y (G := fun q pc K => match q with
            | true => cutP rN (kMv r mP2 mV2) (τM x f1 t1 tx) [v, .b r, .sl e 0 1 (.k 1)] m nx pc K
            | false => match r with
              | true => cutP rN (kMv true mP3 mV3) (τM x f1 t1 tx) [v, .b r, .sl e 0 1 (.k 1)] m nx pc K
              | false => cutP rN (kMv false mP3 (lv 9002)) (τM x f1 t1 tx) [v, .b r, .sl e 0 1 (.k 1)] m nx pc K) hs fun b pc hs => ?_
          cases b with
          | true => cases r with
            | true => exact cutP_ok rN_ok (kMv_ok _ mv_k3) _ m nx pc hs
            | false => exact cutP_ok rN_ok (kMv_ok _ mv_k4) _ m nx pc hs
          | false => cases r with
            | true => exact cutP_ok rN_ok (kMv_ok _ mv_k5) _ m nx pc hs
            | false => exact cutP_ok rN_ok (kMv_ok _ mv_k6) _ m nx pc hs
      · exact Yl.no
    · exact Yl.no
  · exact Yl.no
/-- what is told of selections, tallies, lines -/
structure RhoG (g : Nat) (ρ : Rho) : Prop where
  g6 : g ≤ 6
  sp : ∀ j, j < g → (segF j).den ρ = min (ρ.v (1000 + 4 * (96 + j))) (ρ.v (1001 + 4 * (96 + j))) ∧ (segT j).den ρ = max (ρ.v (1000 + 4 * (96 + j))) (ρ.v (1001 + 4 * (96 + j)))
  tal : ∀ l c, encS l = some c → ρ.s (2000 + 3 * c) = zer (brk (denS ρ l)) ∧ ρ.s (2001 + 3 * c) = zer (cntF runB (denS ρ l)) ∧ ρ.s (2002 + 3 * c) = zer (cntF uniB (denS ρ l))
  ln : ∀ j, j < g → ρ.v (3500 + j) = (brk ((denS ρ (segs g)).take ((segF j).den ρ).toNat) : Nat)
  ind : ∀ j, j < 6 → ρ.s (60 + j) = indL (denS ρ (segs g)) (ρ.v (3500 + j)).toNat
theorem elJ_ok {i j : Nat} (h : elJ g i = some j) : j < g ∧ i = eA (dId j) := by
  unfold elJ at h
  split at h
  · rename_i hc
    simp only [Bool.and_eq_true, Nat.ble_eq, Nat.blt_eq, Nat.beq_eq] at hc
    obtain ⟨⟨h1, h2⟩, h3⟩ := hc
    have h3 : i % 8 = 0 := h3
    have h2 : i < 2768 + 8 * g := h2
    cases h
    refine ⟨by show (i - 2768) / 8 < g; omega, ?_⟩
    show i = 2000 + 8 * (96 + (i - 2768) / 8)
    omega
  · cases h
theorem eA_d (j : Nat) : eA (dId j) = 2 * (1000 + 4 * (96 + j)) := by show 2000 + 8 * (96 + j) = _; omega
theorem eH_d (j : Nat) : eH (dId j) = 2 * (1001 + 4 * (96 + j)) := by show 2002 + 8 * (96 + j) = _; omega
theorem lvA (j : Nat) : (lv (eA (dId j))).den ρ = ρ.v (1000 + 4 * (96 + j)) := by rw [eA_d, lv_v]
theorem lvH (j : Nat) : (lv (eH (dId j))).den ρ = ρ.v (1001 + 4 * (96 + j)) := by rw [eH_d, lv_v]
theorem spanD_ok (h : RhoG g ρ) : CallY Tryz.prog ρ 81 (spanD g fSp) := fun args m nx pc hs => by
  unfold spanD
  split
  · rename_i v
    split
    · rename_i j hv
      have hj : j < g := by
        unfold spOf at hv
        split at hv
        · split at hv
          · rename_i he
            split at hv
            · cases hv; exact (elJ_ok he).1
            · cases hv
          · split at hv <;> cases hv
        · split at hv <;> cases hv
        · cases hv
      obtain ⟨h1, h2⟩ := h.sp j hj
      refine cutP_ok rN_ok (kSpan_ok ?_ ?_) _ m nx pc hs
      · show (segF j).den ρ = min ((lv (eA (dId j))).den ρ) ((lv (eH (dId j))).den ρ)
        rw [lvA, lvH]; exact h1
      · show (segT j).den ρ = max ((lv (eA (dId j))).den ρ) ((lv (eH (dId j))).den ρ)
        rw [lvA, lvH]; exact h2
    · rename_i a hv
      refine cutP_ok rN_ok (kSpan_ok ?_ ?_) _ m nx pc hs
      · show a.den ρ = min (a.den ρ) (a.den ρ); omega
      · show a.den ρ = max (a.den ρ) (a.den ρ); omega
    · exact callBy_c mixJ (smZ_ok ρ) _ m nx pc hs
  · exact Yl.no
theorem spOf_el {v : SV} {j : Nat} (hv : spOf g v = .el j) : j < g := by
  unfold spOf at hv
  split at hv
  · split at hv
    · rename_i he
      split at hv
      · cases hv; exact (elJ_ok he).1
      · cases hv
    · split at hv <;> cases hv
  · split at hv <;> cases hv
  · cases hv
theorem endsOf_ok (h : RhoG g ρ) {v : SV} {a b c d : Lin} (he : endsOf (spOf g v) = some (a, b, c, d)) : c.den ρ = min (a.den ρ) (b.den ρ) ∧ d.den ρ = max (a.den ρ) (b.den ρ) := by
  cases hv : spOf g v
  · rw [hv] at he; cases he
  · rename_i j
    rw [hv] at he
    cases he
    rw [lvA, lvH]
    exact h.sp j (spOf_el hv)
  · rw [hv] at he
    cases he
    omega
theorem cmpD_ok (h : RhoG g ρ) : CallY Tryz.prog ρ 133 (cmpD g noS) := fun args m nx pc hs => by
  unfold cmpD
  split
  · rename_i u v
    split
    · rename_i a b c d a' b' c' d' hu hv
      obtain ⟨u1, u2⟩ := endsOf_ok h hu
      obtain ⟨v1, v2⟩ := endsOf_ok h hv
      have hC : CmpR (rhoS (τC a b c d a' b' c' d') ρ) := ⟨u1, u2, v1, v2⟩
      refine dec_y (G := fun r pc K => match r with
        | false => cutP rN (kCmp cP1 1) (τC a b c d a' b' c' d') [u, v] m nx pc K
        | true => dec2 pc (ge c c') fun r pc => match r with
          | false => cutP rN (kCmp cP0 (-1)) (τC a b c d a' b' c' d') [u, v] m nx pc K
          | true => dec2 pc (ge d' d) fun r pc => match r with
            | false => cutP rN (kCmp cP3 1) (τC a b c d a' b' c' d') [u, v] m nx pc K
            | true => dec2 pc (ge d d') fun r pc => match r with
              | false => cutP rN (kCmp cP2 (-1)) (τC a b c d a' b' c' d') [u, v] m nx pc K
              | true => cutP rN (kCmp cP4 0) (τC a b c d a' b' c' d') [u, v] m nx pc K) hs fun r pc hs => ?_
      cases r with
      | false => exact cutP_ok rN_ok (kCmp_ok hC cmp_k1 (by kernel_rfl)) _ m nx pc hs
      | true =>
        refine dec_y (G := fun r pc K => match r with
          | false => cutP rN (kCmp cP0 (-1)) (τC a b c d a' b' c' d') [u, v] m nx pc K
          | true => dec2 pc (ge d' d) fun r pc => match r with
            | false => cutP rN (kCmp cP3 1) (τC a b c d a' b' c' d') [u, v] m nx pc K
            | true => dec2 pc (ge d d') fun r pc => match r with
              | false => cutP rN (kCmp cP2 (-1)) (τC a b c d a' b' c' d') [u, v] m nx pc K
              | true => cutP rN (kCmp cP4 0) (τC a b c d a' b' c' d') [u, v] m nx pc K) hs fun r pc hs => ?_
        cases r with
        | false => exact cutP_ok rN_ok (kCmp_ok hC cmp_k0 (by kernel_rfl)) _ m nx pc hs
        | true =>
          refine dec_y (G := fun r pc K => match r with
            | false => cutP rN (kCmp cP3 1) (τC a b c d a' b' c' d') [u, v] m nx pc K
            | true => dec2 pc (ge d d') fun r pc => match r with
              | false => cutP rN (kCmp cP2 (-1)) (τC a b c d a' b' c' d') [u, v] m nx pc K
              | true => cutP rN (kCmp cP4 0) (τC a b c d a' b' c' d') [u, v] m nx pc K) hs fun r pc hs => ?_
          cases r with
          | false => exact cutP_ok rN_ok (kCmp_ok hC cmp_k3 (by kernel_rfl)) _ m nx pc hs
          | true =>
            refine dec_y (G := fun r pc K => match r with
              | false => cutP rN (kCmp cP2 (-1)) (τC a b c d a' b' c' d') [u, v] m nx pc K
              | true => cutP rN (kCmp cP4 0) (τC a b c d a' b' c' d') [u, v] m nx pc K) hs fun r pc hs => ?_
            cases r with
            | false => exact cutP_ok rN_ok (kCmp_ok hC cmp_k2 (by kernel_rfl)) _ m nx pc hs
            | true => exact cutP_ok rN_ok (kCmp_ok hC cmp_k4 (by kernel_rfl)) _ m nx pc hs
    · exact Yl.no
  · exact Yl.no
end
end X
end Go.Proofs.YtdbchpoaoghgpaaGreatDoor

set_option linter.unusedSimpArgs false
set_option linter.unusedVariables false
namespace Go.Proofs.YtdbchpoaoghgpaaGreatDoor
namespace X
open Go.RowKit B
set_option maxRecDepth 1000000

noncomputable def smS : SumT := withF 77 (sortedKeys [131, 288] 3) smZ
noncomputable def cEach : Code := bodyOf Tryz.f328.body
theorem fn_each : Tryz.prog.funcs[328]? = some Tryz.f328 := by kernel_rfl
theorem join_each (t : Trig2) : Tryz.f328.body = some (mkX cEach [t]).1.code := by kernel_rfl
noncomputable def smM : SumT := withF 328 (callX' Tryz.prog smS 328 cEach [eachTrig 5 (ccN 60 [.a 7] [] [noB 10])]) smS
theorem make_k : runK (go smM 164) kMake.a0 kMake.l0 (kMake.pc0 ++ v5P) rN kMake = true := by kernel_rfl
theorem make_k0 : runK (go smS 164) kMake0.a0 kMake0.l0 kMake0.pc0 rN kMake0 = true := by kernel_rfl
section
variable {ρ : Rho} {g : Nat}
theorem smS_ok (ρ : Rho) : SumOk Tryz.prog ρ smS := withF_ok (smZ_ok ρ) fun args m nx pc hs => sorted_yl hs
theorem v5_ok (h : ρ.v 500 = 0) : Sat ρ v5P := by
  have a : ρ.at 1000 = ρ.v 500 := ρ.at_v 500
  refine sat_cons ?_ (sat_cons ?_ sat_nil) <;> simp only [Lin.den, dts, a, h] <;> omega
theorem kMake_ok (h : (10 : UInt8) ∉ ρ.s 7) : KnownOk Tryz.prog 164 kMake ρ := fun h0 => by
  let ρ1 : Rho := ⟨fun _ => 0, ρ.s⟩
  have q : (ρ.s 7).length ≤ 40 := by
    have := h0 (.mk 40 [(29, -1)]) (by simp [kMake, f7])
    have a7 : ρ.at 29 = ((ρ.s 7).length : Int) := ρ.at_l 7
    simp only [Lin.den, dts, a7] at this; omega
  have d7 : denS ρ1 [.a 7] = ρ.s 7 := d1 (ρ := ρ1) 7
  obtain ⟨I, hI⟩ := ccN_ok (ρ0 := ρ1) rfl (M := 60) (Y := [.a 7]) (vk := []) (cl := [noB 10]) (by rw [d7]; omega) (by rw [d7]; omega) (fun b hb ρ' _ s1 => sat_cons (noB_ok s1 (by omega) (fun e => h (by rw [d7] at hb; rw [e] at hb; exact hb))) sat_nil)
  have sum : SumOk Tryz.prog ρ1 smM := withF_ok (smS_ok ρ1) (callX_ok mixJ (fun ρ' _ => smS_ok ρ') fn_each (join_each _) fun t ht => by
    have : t = eachTrig 5 (ccN 60 [.a 7] [] [noB 10]) := by simpa using ht
    rw [this]; exact trc_ok (fun _ _ _ _ => eachTrig_c) hI)
  have K : KnownOk Tryz.prog 164 kMake ρ1 := known_r (callBy_c mixJ sum) rN_ok (fun h => sat_app h (v5_ok rfl)) make_k (by kernel_rfl)
  exact KnownOk.vis (ρ := ρ1) (a := [7, 9]) (b := []) (by kernel_rfl) (by kernel_rfl) (by kernel_rfl) (fun i _ => rfl) (fun i hi => by cases hi) K h0
theorem kMake0_ok (ρ : Rho) : KnownOk Tryz.prog 164 kMake0 ρ := known_of mixJ (smS_ok ρ) rN_ok make_k0
theorem makeD_ok (h : (10 : UInt8) ∉ ρ.s 7) : CallY Tryz.prog ρ 164 makeD := fun args m nx pc hs => by
  unfold makeD
  split
  · refine cutP_ok rN_ok (kMake_ok ?_) _ m nx pc hs
    show (10 : UInt8) ∉ denS ρ [.a 7]
    rw [d1]; exact h
  · exact cutP_ok rN_ok (kMake0_ok _) _ m nx pc hs
  · exact Yl.no
/-! ### Tallies -/
theorem memP_add {fs pc : PC} (hf : Sat ρ fs) (hs : Sat ρ pc) : Sat ρ (addNew fs pc) := by
  induction fs with
  | nil => exact hs
  | cons e l ih =>
    unfold addNew
    split
    · exact ih fun x hx => hf x (List.mem_cons_of_mem _ hx)
    · exact sat_cons (hf e List.mem_cons_self) (ih fun x hx => hf x (List.mem_cons_of_mem _ hx))
theorem tallyD_ok (h : RhoG g ρ) : CallY Tryz.prog ρ 236 (tallyD fT) := fun args m nx pc hs => by
  unfold tallyD
  split
  · rename_i i l
    split
    · rename_i c hc
      obtain ⟨t1, t2, t3⟩ := h.tal _ c hc
      refine Yl.bind frn_yl fun b hb => ?_
      subst hb
      split
      · rename_i hp
        have hl := proves_ok hp hs
        rw [sub_den, const_den, lenS_den] at hl
        have hl : (denS ρ (.a i :: l)).length ≤ 400 := by omega
        have e0 : tlS c = 2000 + 3 * c := rfl
        have hk : KnownOk Tryz.prog 236 kTallyD (rhoS ⟨[(6, .a i :: l), (9, [.a (tlS c)]), (10, [.a (Nat.succ (tlS c))]), (11, [.a (Nat.succ (Nat.succ (tlS c)))])], []⟩ ρ) := kTally_ok (by
            show denS ρ [.a (tlS c)] = zer (brk (denS ρ (.a i :: l))); rw [d1]; exact t1) (by
            show denS ρ [.a (Nat.succ (tlS c))] = zer (cntF runB (denS ρ (.a i :: l))); rw [d1, show Nat.succ (tlS c) = 2001 + 3 * c by rw [e0]; omega]; exact t2) (by
            show denS ρ [.a (Nat.succ (Nat.succ (tlS c)))] = zer (cntF uniB (denS ρ (.a i :: l))); rw [d1, show Nat.succ (Nat.succ (tlS c)) = 2002 + 3 * c by rw [e0]; omega]; exact t3)
        refine Yl.map (fun r : O4 => (⟨r.v, r.m, r.nx, addNew _ r.pc⟩ : O4)) (cutP_ok rN_ok hk _ m nx pc hs) fun r hr => hr.pcs (memP_add ?_ hr.pc)
        have w1 := brk_le (l := denS ρ (.a i :: l))
        have w2 := run_bnd (l := denS ρ (.a i :: l))
        have v1 : (lv (tlB c)).den ρ = (brk (denS ρ (.a i :: l)) : Int) := by
          have := lv_l (ρ := ρ) (2000 + 3 * c); rw [t1, zer_len] at this
          rw [show tlB c = 4 * (2000 + 3 * c) + 1 by show 8001 + 12 * c = _; omega]; exact this
        have v2 : (lv (Nat.add (tlB c) 4)).den ρ = (cntF runB (denS ρ (.a i :: l)) : Int) := by
          have := lv_l (ρ := ρ) (2001 + 3 * c); rw [t2, zer_len] at this
          rw [show Nat.add (tlB c) 4 = 4 * (2001 + 3 * c) + 1 by show 8001 + 12 * c + 4 = _; omega]; exact this
        have v3 : (lv (Nat.add (tlB c) 8)).den ρ = (cntF uniB (denS ρ (.a i :: l)) : Int) := by
          have := lv_l (ρ := ρ) (2002 + 3 * c); rw [t3, zer_len] at this
          rw [show Nat.add (tlB c) 8 = 4 * (2002 + 3 * c) + 1 by show 8001 + 12 * c + 8 = _; omega]; exact this
        refine sat_cons ?_ (sat_cons ?_ (sat_cons ?_ (sat_cons ?_ sat_nil)))
        · simp only [le', sub_den, const_den, v1, Int.ofNat_eq_natCast]; omega
        · simp only [le', sub_den, const_den, v2, Int.ofNat_eq_natCast]; omega
        · simp only [le', sub_den, const_den, v3, Int.ofNat_eq_natCast]; omega
        · show 0 ≤ ((lenS (.a i :: l)).sub (lv (tlB c))).den ρ
          rw [sub_den, lenS_den, v1]; omega
      · exact Yl.no
    · exact Yl.no
  · exact fT_ok ρ _ m nx pc hs
/-! ### Lines -/
theorem code_ok : ∀ g, g ≤ 6 → encS (segs g) = some (codeG g)
  | 0, _ => by kernel_rfl
  | 1, _ => by kernel_rfl
  | 2, _ => by kernel_rfl
  | 3, _ => by kernel_rfl
  | 4, _ => by kernel_rfl
  | 5, _ => by kernel_rfl
  | 6, _ => by kernel_rfl
  | n + 7, h => absurd h (by omega)
theorem text_tal (h : RhoG g ρ) (more : List (Nat × Str)) (τv : List (Nat × Lin)) (hm : ∀ i, i = 6 ∨ i = 9 ∨ i = 10 ∨ i = 11 → fndS (more ++ textS g) i = fndS (textS g) i) : Tal (rhoS ⟨more ++ textS g, τv⟩ ρ) := by
  obtain ⟨t1, t2, t3⟩ := h.tal _ _ (code_ok g h.g6)
  have e0 : tlS (codeG g) = 2000 + 3 * codeG g := rfl
  refine ⟨?_, ?_, ?_⟩
  · show denS ρ (fndS (more ++ textS g) 9) = zer (brk (denS ρ (fndS (more ++ textS g) 6)))
    rw [hm 9 (by omega), hm 6 (by omega)]
    show denS ρ [.a (tlS (codeG g))] = zer (brk (denS ρ (segs g)))
    rw [d1]; exact t1
  · show denS ρ (fndS (more ++ textS g) 10) = zer (cntF runB (denS ρ (fndS (more ++ textS g) 6)))
    rw [hm 10 (by omega), hm 6 (by omega)]
    show denS ρ [.a (Nat.succ (tlS (codeG g)))] = zer (cntF runB (denS ρ (segs g)))
    rw [d1, show Nat.succ (tlS (codeG g)) = 2001 + 3 * codeG g by rw [e0]; omega]; exact t2
  · show denS ρ (fndS (more ++ textS g) 11) = zer (cntF uniB (denS ρ (fndS (more ++ textS g) 6)))
    rw [hm 11 (by omega), hm 6 (by omega)]
    show denS ρ [.a (Nat.succ (Nat.succ (tlS (codeG g))))] = zer (cntF uniB (denS ρ (segs g)))
    rw [d1, show Nat.succ (Nat.succ (tlS (codeG g))) = 2002 + 3 * codeG g by rw [e0]; omega]; exact t3
theorem placeD_ok (h : RhoG g ρ) : CallY Tryz.prog ρ 162 (placeD g) := fun args m nx pc hs => by
  unfold placeD
  split
  · split
    · exact cutP_ok rN_ok (kPlace_ok (text_tal h [] _ fun _ _ => rfl)) _ m nx pc hs
    · exact Yl.no
  · exact Yl.no
theorem lnJ_den (j : Nat) : (lv (lnJ j)).den ρ = ρ.v (3500 + j) := by
  rw [show lnJ j = 2 * (3500 + j) by show 7000 + 2 * j = _; omega, lv_v]
theorem atD_ok (h : RhoG g ρ) : ∀ k, k ≤ g → CallY Tryz.prog ρ 137 (atD g k)
  | 0, _ => noS_ok
  | j + 1, hj => fun args m nx pc hs => by
    unfold atD
    split
    · split
      · refine cutP_ok rN_ok (kAt_ok (text_tal h [] _ fun _ _ => rfl) ?_) _ m nx pc hs
        show (lv (lnJ j)).den ρ = (brk ((denS ρ (segs g)).take ((segF j).den ρ).toNat) : Nat)
        rw [lnJ_den]; exact h.ln j (by omega)
      · exact atD_ok h j (by omega) _ m nx pc hs
    · exact Yl.no
theorem indD_ok (h : RhoG g ρ) : CallY Tryz.prog ρ 163 (indD g) := fun args m nx pc hs => by
  unfold indD
  split
  · rename_i i
    split
    · rename_i hc
      simp only [Bool.and_eq_true, Nat.ble_eq, Nat.blt_eq, Nat.beq_eq] at hc
      obtain ⟨⟨h1, h2⟩, h3⟩ := hc
      have h3 : i % 2 = 0 := h3
      have h2 : i < 7012 := h2
      refine cutP_ok rN_ok (kInd_ok (text_tal h [(7, _)] _ fun i hi => by rcases hi with rfl | rfl | rfl | rfl <;> rfl) ?_) _ m nx pc hs
      show denS ρ [.a (Nat.add 60 (Nat.div (Nat.sub i 7000) 2))] = indL (denS ρ (segs g)) ((lv i).den ρ).toNat
      rw [d1]
      have hi := h.ind ((i - 7000) / 2) (by omega)
      have e : (lv i).den ρ = ρ.v (3500 + (i - 7000) / 2) := by
        rw [← lnJ_den]; congr 2; show i = 7000 + 2 * ((i - 7000) / 2); omega
      rw [e]; exact hi
    · exact Yl.no
  · exact Yl.no
/-! ### All of it -/
theorem smW_ok (h : RhoG g ρ) : SumOk Tryz.prog ρ (smW g [131, 288] fSp) :=
  withF_ok (withF_ok (withF_ok (withF_ok (none_ok ρ) fun args m nx pc hs => sorted_yl hs) moveD_ok) (cmpD_ok h)) (spanD_ok h)
theorem edi_all : ∀ g e, 1 ≤ g → g ≤ 6 → ediK g e = true
  | 0, _, h, _ => absurd h (by omega)
  | 1, false, _, _ => edi_1
  | 1, true, _, _ => edi_1e
  | 2, false, _, _ => edi_2
  | 2, true, _, _ => edi_2e
  | 3, false, _, _ => edi_3
  | 3, true, _, _ => edi_3e
  | 4, false, _, _ => edi_4
  | 4, true, _, _ => edi_4e
  | 5, false, _, _ => edi_5
  | 5, true, _, _ => edi_5e
  | 6, false, _, _ => edi_6
  | 6, true, _, _ => edi_6e
  | n + 7, _, _, h => absurd h (by omega)
theorem fdo_all : ∀ g e, 1 ≤ g → g ≤ 6 → fdoK g e = true
  | 0, _, h, _ => absurd h (by omega)
  | 1, false, _, _ => fdo_1
  | 1, true, _, _ => fdo_1e
  | 2, false, _, _ => fdo_2
  | 2, true, _, _ => fdo_2e
  | 3, false, _, _ => fdo_3
  | 3, true, _, _ => fdo_3e
  | 4, false, _, _ => fdo_4
  | 4, true, _, _ => fdo_4e
  | 5, false, _, _ => fdo_5
  | 5, true, _, _ => fdo_5e
  | 6, false, _, _ => fdo_6
  | 6, true, _, _ => fdo_6e
  | n + 7, _, _, h => absurd h (by omega)
theorem ins_all : ∀ g e, 1 ≤ g → g ≤ 6 → insK g e = true
  | 0, _, h, _ => absurd h (by omega)
  | 1, false, _, _ => ins_1
  | 1, true, _, _ => ins_1e
  | 2, false, _, _ => ins_2
  | 2, true, _, _ => ins_2e
  | 3, false, _, _ => ins_3
  | 3, true, _, _ => ins_3e
  | 4, false, _, _ => ins_4
  | 4, true, _, _ => ins_4e
  | 5, false, _, _ => ins_5
  | 5, true, _, _ => ins_5e
  | 6, false, _, _ => ins_6
  | 6, true, _, _ => ins_6e
  | n + 7, _, _, h => absurd h (by omega)
theorem cutI_ok {P : Program} {f : Nat} {rs : Rules} (hr : RulesOk ρ rs) {k : Known} (hk : KnownOk P f k ρ) (hp : k.pc1 = []) : CallY P ρ f (cutI rs k) := factS_ok fun args m nx pc hs => by
  have := cutG_yl hr (f := f) (args0 := k.a0) (l0 := k.l0) (nx0 := k.nx0) (pc0 := k.pc0) (v1 := k.v1) (l1 := k.l1) (nx1 := k.nx1) (pc1 := k.pc1) (P := P) (fun pc hs h0 => (hk h0).pcs (by rw [hp]; exact hs)) (args := args) (m := m) (nx := nx) hs
  exact this
theorem kEdi_ok (h : RhoG g ρ) (h1 : 1 ≤ g) (e : Bool) : KnownOk Tryz.prog 90 (kEdi g e) ρ := known_of mixJ (smW_ok h) rN_ok (edi_all g e h1 h.g6)
theorem smWE_ok (h : RhoG g ρ) (h1 : 1 ≤ g) (e : Bool) : SumOk Tryz.prog ρ (smWE g e [131, 288] fSp) := withF_ok (smW_ok h) (cutI_ok rN_ok (kEdi_ok h h1 e) rfl)
theorem smI_ok (h : RhoG g ρ) (h1 : 1 ≤ g) (e : Bool) (h7 : (10 : UInt8) ∉ ρ.s 7) : SumOk Tryz.prog ρ (smI g e [131, 288] fSp fT) :=
  withF_ok (withF_ok (withF_ok (withF_ok (withF_ok (smWE_ok h h1 e) (makeD_ok h7)) (indD_ok h)) (atD_ok h g (Nat.le_refl _))) (placeD_ok h)) (tallyD_ok h)
theorem kFdo_ok (h : RhoG g ρ) (h1 : 1 ≤ g) (e : Bool) (hr : RulesOk ρ (rW g (textP g e))) : KnownOk Tryz.prog 52 (kFdo g e) ρ := known_of mixJ (smWE_ok h h1 e) hr (fdo_all g e h1 h.g6)
theorem kIns_ok (h : RhoG g ρ) (h1 : 1 ≤ g) (e : Bool) (h7 : (10 : UInt8) ∉ ρ.s 7) (hr : RulesOk ρ (rW g (textP g e))) : KnownOk Tryz.prog 56 (kIns g e) ρ := known_of mixJ (smI_ok h h1 e h7) hr (ins_all g e h1 h.g6)
end
end X
end Go.Proofs.YtdbchpoaoghgpaaGreatDoor
