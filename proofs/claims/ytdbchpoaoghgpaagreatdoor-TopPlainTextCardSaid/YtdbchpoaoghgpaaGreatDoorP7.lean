/-
  What is known of a call, told otherwise: rows of so many pairs.
-/
import Derived.Test.YtdbchpoaoghgpaaGreatDoorP4
import Derived.Test.YtdbchpoaoghgpaaGreatDoorP5
import Derived.Test.YtdbchpoaoghgpaaGreatDoorP6
import Derived.Test.YtdbchpoaoghgpaaGreatDoorQ2
import Derived.Test.YtdbchpoaoghgpaaGreatDoorPnU
import Derived.Test.YtdbchpoaoghgpaaGreatDoorPnWk3
import Derived.Test.YtdbchpoaoghgpaaGreatDoorT2
import Derived.Test.YtdbchpoaoghgpaaGreatDoorChecked
import Derived.Test.YtdbchpoaoghgpaaGreatDoorP1
import Derived.Test.YtdbchpoaoghgpaaGreatDoorPnKp1
import Derived.Test.YtdbchpoaoghgpaaGreatDoorPnKp2
import Derived.Test.YtdbchpoaoghgpaaGreatDoorPnKp3
import Derived.Test.YtdbchpoaoghgpaaGreatDoorQ3
import Derived.Test.YtdbchpoaoghgpaaGreatDoorT1
import Derived.Test.YtdbchpoaoghgpaaGreatDoorPnKa
import Derived.Test.YtdbchpoaoghgpaaGreatDoorPnM1
import Derived.Test.YtdbchpoaoghgpaaGreatDoorPnM2
import Derived.Test.YtdbchpoaoghgpaaGreatDoorPnM3
import Derived.Test.YtdbchpoaoghgpaaGreatDoorPnM4
import Derived.Test.YtdbchpoaoghgpaaGreatDoorPnM5
import Derived.Test.YtdbchpoaoghgpaaGreatDoorPnM6
import Derived.Test.YtdbchpoaoghgpaaGreatDoorPnM7
set_option linter.unusedSimpArgs false
set_option linter.unusedVariables false
namespace Go.Proofs.YtdbchpoaoghgpaaGreatDoor
namespace X
open Go.RowKit B

section
variable {ρ ρ' : Rho} {P : Program} {f : Nat}
/-- two blocks say the same -/
def EqB (ρ ρ' : Rho) (b b' : Blk) : Prop := ∀ θ w t, HoldsB ρ θ w t b ↔ HoldsB ρ' θ w t b'
theorem EqB.refl {b : Blk} : EqB ρ ρ b b := fun _ _ _ => Iff.rfl
theorem EqB.symm {b b' : Blk} (h : EqB ρ ρ' b b') : EqB ρ' ρ b' b := fun θ w t => (h θ w t).symm
def EqO (ρ ρ' : Rho) : Option Blk → Option Blk → Prop
  | none, none => True
  | some b, some b' => EqB ρ ρ' b b'
  | _, _ => False
def EqL (ρ ρ' : Rho) : ML → ML → Prop
  | [], [] => True
  | (t, b) :: l, (t', b') :: l' => t = t' ∧ EqB ρ ρ' b b' ∧ EqL ρ ρ' l l'
  | _, _ => False
theorem EqO.symm : ∀ {o o' : Option Blk}, EqO ρ ρ' o o' → EqO ρ' ρ o' o
  | none, none, _ => trivial
  | some _, some _, h => EqB.symm h
  | none, some _, h => h.elim
  | some _, none, h => h.elim
theorem EqL.symm : ∀ {l l' : ML}, EqL ρ ρ' l l' → EqL ρ' ρ l' l
  | [], [], _ => trivial
  | (t, b) :: l, (t', b') :: l', ⟨h1, h2, h3⟩ => ⟨h1.symm, h2.symm, h3.symm⟩
  | [], _ :: _, h => h.elim
  | _ :: _, [], h => h.elim
theorem EqL.refl : ∀ {l : ML}, EqL ρ ρ l l
  | [] => trivial
  | (_, _) :: _ => ⟨rfl, EqB.refl, EqL.refl⟩
theorem lookU_eq {t : Nat} : ∀ {l l' : ML} {o o' : Option Blk}, EqL ρ ρ' l l' → EqO ρ ρ' o o' → EqO ρ ρ' (lookU l t o) (lookU l' t o')
  | [], [], o, o', _, h => h
  | (s, b) :: l, (s', b') :: l', o, o', ⟨h1, h2, h3⟩, h => by
    subst h1
    simp only [lookU]
    refine lookU_eq h3 ?_
    split
    · exact h2
    · exact h
  | [], _ :: _, _, _, h, _ => h.elim
  | _ :: _, [], _, _, h, _ => h.elim
def EqM (ρ ρ' : Rho) (m m' : Mem) : Prop := ∀ t, EqO ρ ρ' (m.get t) (m'.get t)
theorem EqL.mem {l l' : ML} (h : EqL ρ ρ' l l') {K K' : Mem → Bool} (hk : mkK l .lf K = true) (hk' : mkK l' .lf K' = true) : EqM ρ ρ' (mkU l .lf) (mkU l' .lf) := fun t => by
  rw [(mkK_get hk).2, (mkK_get hk').2]
  exact lookU_eq h trivial
theorem EqO.none_iff {o o' : Option Blk} (h : EqO ρ ρ' o o') : o = none ↔ o' = none := by
  cases o <;> cases o' <;> simp_all [EqO]
theorem EqM.ok {m m' : Mem} (h : EqM ρ ρ' m m') {θ : Th} {w : World} (hM : MemOk ρ θ m.get w) : MemOk ρ' θ m'.get w := by
  have ne : ∀ t, m'.get t ≠ none → m.get t ≠ none := fun t ht q => ht ((h t).none_iff.1 q)
  refine ⟨fun t b hb => ?_, fun s t g c c' h1 h2 => hM.inj s t g c c' (ne s h1) (ne t h2)⟩
  have := h t
  rw [hb] at this
  cases hq : m.get t with
  | none => rw [hq] at this; exact this.elim
  | some b' =>
    rw [hq] at this
    exact (this θ w t).1 (hM.holds t b' hq)
theorem EqM.symm {m m' : Mem} (h : EqM ρ ρ' m m') : EqM ρ' ρ m' m := fun t => (h t).symm
theorem CallR.ret {args args' : List SV} {m0 m0' : Mem} {nx : Nat} {r r' : O4} (h : CallR P ρ f args m0 nx r) (ha : ∀ θ, dens ρ' θ args' = dens ρ θ args) (h0 : EqM ρ' ρ m0' m0) (hv : ∀ θ, den ρ θ r.v = den ρ' θ r'.v) (h1 : EqM ρ ρ' r.m r'.m) (hx : r'.nx = r.nx) (hs : Sat ρ' r'.pc) : CallR P ρ' f args' m0' nx r' := by
  refine ⟨h.enter, hs, by rw [hx]; exact h.le, fun t q1 q2 => ?_, fun w θ us hus hM hfr => ?_⟩
  · rw [hx]
    exact h.new t ((h0 t).none_iff.1 q1) fun q => q2 ((h1 t).none_iff.1 q)
  · rw [ha] at hus
    rw [hx] at hfr
    refine calls_mono (h.run w θ us hus (h0.ok hM) hfr) fun e w' ⟨v, θ2, he, hsp, hv2⟩ => ⟨v, θ2, he, ⟨hsp.le, by rw [hx]; exact hsp.new, h1.ok hsp.mem, hsp.ext.mono fun g _ ⟨t, c, z1, z2⟩ => ⟨t, c, fun q => z1 ((h0 t).none_iff.1 q), z2⟩, fun g ⟨t, c, z1, z2⟩ => ?_⟩, by rw [← hv]; exact hv2⟩
    rcases hsp.own g ⟨t, c, fun q => z1 ((h1 t).none_iff.1 q), z2⟩ with ⟨t', c', y1, y2⟩ | z
    · exact .inl ⟨t', c', fun q => y1 ((h0 t').none_iff.1 q), y2⟩
    · exact .inr z
/-- known, told otherwise -/
theorem KnownOk.ret {k k' : Known} (hK : KnownOk P f k ρ) (hs : Sat ρ k.pc0) (ha : ∀ θ, dens ρ' θ k'.a0 = dens ρ θ k.a0) (h0 : EqL ρ' ρ k'.l0 k.l0) (hv : ∀ θ, den ρ θ k.v1 = den ρ' θ k'.v1) (h1 : EqL ρ ρ' k.l1 k'.l1) (hx0 : k'.nx0 = k.nx0) (hx : k'.nx1 = k.nx1) (hp : Sat ρ' k'.pc1)
    (m0 : mkK k.l0 .lf (fun _ => true) = true) (m0' : mkK k'.l0 .lf (fun _ => true) = true) (m1 : mkK k.l1 .lf (fun _ => true) = true) (m1' : mkK k'.l1 .lf (fun _ => true) = true) : KnownOk P f k' ρ' := fun _ => by
  have := (hK hs).ret (r' := ⟨k'.v1, mkU k'.l1 .lf, k'.nx1, k'.pc1⟩) ha (h0.mem m0' m0) hv (h1.mem m1 m1') hx hp
  rw [hx0]; exact this
/-! ### Rows -/
theorem pairs_ints (n b : Nat) : ∀ v ∈ pairs ρ n b, v.oneCell' = true := fun v hv => by
  obtain ⟨j, _, rfl⟩ := List.mem_map.1 hv
  rfl
theorem row_eq {ty n b : Nat} {cs : List SV} (h : ∀ θ, dens ρ' θ cs = some (pairs ρ n b)) : EqB ρ ρ' (.cx ty n b) (.ce ty cs false) := fun θ w t => by
  constructor
  · rintro ⟨g, c, arr, rest, f1, f2, f3, f4⟩
    exact ⟨g, c, _, arr, rest, f1, f2, f3, h θ, pairs_ints n b, f4, fun e => by cases e⟩
  · rintro ⟨g, c, vs, arr, rest, f1, f2, f3, f4, _, f5, _⟩
    rw [h θ] at f4
    cases f4
    exact ⟨g, c, arr, rest, f1, f2, f3, f5⟩
theorem rowV_den {n t g : Nat} (hg : ρ.v n = g) (θ : Th) : den ρ θ (.sx t n) = den ρ θ (.sl t 0 g (.q 2)) := by
  simp only [den, hg, Int.toNat_natCast]
theorem pairs_of {n b g : Nat} (hg : ρ.v n = g) : pairs ρ n b = (List.range (2 * g)).map fun j => .int .i64 (ρ.v (b + j)) := by
  unfold pairs
  rw [hg, Int.toNat_natCast]
/-- cells, two by two -/
theorem dens_two {a h : Nat → Lin} {θ : Th} {b : Nat} : ∀ {g s : Nat}, (∀ j, s ≤ j → j < s + g → (a j).den ρ = ρ.v (b + 2 * j) ∧ (h j).den ρ = ρ.v (b + 2 * j + 1)) → dens ρ θ (catL (fun j => [xl (a j), xl (h j)]) (upto s g)) = some ((List.range' (2 * s) (2 * g)).map fun j => .int .i64 (ρ.v (b + j)))
  | 0, s, _ => by simp [upto, catL, dens]
  | g + 1, s, hj => by
    have ih := dens_two (θ := θ) (g := g) (s := s + 1) fun j h1 h2 => hj j (by omega) (by omega)
    obtain ⟨e1, e2⟩ := hj s (by omega) (by omega)
    have e3 : List.range' (2 * s) (2 * (g + 1)) = 2 * s :: (2 * s + 1) :: List.range' (2 * (s + 1)) (2 * g) := by
      rw [show 2 * (g + 1) = (2 * g + 1) + 1 by omega, List.range'_succ, List.range'_succ]
      rfl
    rw [e3]
    simp only [upto, catL, appL, dens, den, xl, Option.bind_some, List.map_cons]
    have ih' : dens ρ θ (catL (fun j => [SV.x .i64 (a j), SV.x .i64 (h j)]) (upto (Nat.succ s) g)) = _ := ih
    rw [ih', e1, e2]
    simp [Nat.add_assoc]
theorem row_dens {a h : Nat → Lin} {n b g : Nat} (hg : ρ.v n = g) (hj : ∀ j, j < g → (a j).den ρ = ρ.v (b + 2 * j) ∧ (h j).den ρ = ρ.v (b + 2 * j + 1)) (θ : Th) : dens ρ θ (catL (fun j => [xl (a j), xl (h j)]) (upto 0 g)) = some (pairs ρ n b) := by
  rw [dens_two (fun j _ h2 => hj j (by omega)), pairs_of hg, List.range_eq_range']
theorem selsC_cat : ∀ l : List Nat, selsC (mapL dId l) = catL (fun j => [xl (lv (eA (dId j))), xl (lv (eH (dId j)))]) l
  | [] => rfl
  | j :: l => by simp only [mapL, selsC, catL, appL, selsC_cat l]; rfl
end
end X
end Go.Proofs.YtdbchpoaoghgpaaGreatDoor

set_option linter.unusedSimpArgs false
set_option linter.unusedVariables false
namespace Go.Proofs.YtdbchpoaoghgpaaGreatDoor
namespace X
open Go.RowKit B
set_option maxRecDepth 1000000

structure RowR (g : Nat) (ρ : Rho) : Prop where
  n : ρ.v 5000 = g
  g1 : 1 ≤ g
  g6 : g ≤ 6
  el : ∀ j, j < g → ρ.v (5010 + 2 * j) = ρ.v (1000 + 4 * (96 + j)) ∧ ρ.v (5011 + 2 * j) = ρ.v (1001 + 4 * (96 + j))
  ca : ∀ j, j < g → ρ.v (5030 + 2 * j) = ρ.v (3550 + j) ∧ ρ.v (5031 + 2 * j) = ρ.v (3550 + j)
section
variable {ρ : Rho} {g : Nat}
theorem rowE_eq (h : RowR g ρ) (b : Nat) : EqB ρ ρ (rowB b) (rowE g b) := row_eq (row_dens h.n fun j hj => ⟨lv_v (b + 2 * j), lv_v (b + 2 * j + 1)⟩)
theorem rowD_eq (h : RowR g ρ) : EqB ρ ρ (rowB 5010) (.ce 51 (dC g) false) := row_eq fun θ => by
  unfold dC
  rw [selsC_cat]
  exact row_dens h.n (fun j hj => ⟨(lvA j).trans (h.el j hj).1.symm, (lvH j).trans (by rw [← (h.el j hj).2]; rw [show 5011 + 2 * j = 5010 + 2 * j + 1 by omega])⟩) θ
theorem lvCar (j : Nat) : (lv (carJ j)).den ρ = ρ.v (3550 + j) := by
  rw [show carJ j = 2 * (3550 + j) by show 7100 + 2 * j = _; omega, lv_v]
theorem rowK_eq (h : RowR g ρ) : EqB ρ ρ (rowB 5030) (carB g) := row_eq fun θ => row_dens h.n (fun j hj => ⟨(lvCar j).trans (h.ca j hj).1.symm, (lvCar j).trans (by rw [← (h.ca j hj).2]; rw [show 5031 + 2 * j = 5030 + 2 * j + 1 by omega])⟩) θ
theorem rowV_d (h : RowR g ρ) (t : Nat) (θ : Th) : den ρ θ (rowV t) = den ρ θ (rowS t g) := rowV_den h.n θ
theorem six {p : Nat → Prop} (h1 : p 1) (h2 : p 2) (h3 : p 3) (h4 : p 4) (h5 : p 5) (h6 : p 6) : ∀ g, 1 ≤ g → g ≤ 6 → p g
  | 1, _, _ => h1
  | 2, _, _ => h2
  | 3, _, _ => h3
  | 4, _, _ => h4
  | 5, _, _ => h5
  | 6, _, _ => h6
  | n + 7, _, h => absurd h (by omega)
theorem cl_all (g : Nat) (h1 : 1 ≤ g) (h6 : g ≤ 6) : clK g 5010 = true ∧ clK g 5030 = true := six (p := fun g => clK g 5010 = true ∧ clK g 5030 = true) ⟨clA_1, clB_1⟩ ⟨clA_2, clB_2⟩ ⟨clA_3, clB_3⟩ ⟨clA_4, clB_4⟩ ⟨clA_5, clB_5⟩ ⟨clA_6, clB_6⟩ g h1 h6
theorem eq_all (g : Nat) (h1 : 1 ≤ g) (h6 : g ≤ 6) : eqK g = true := six (p := fun g => eqK g = true) eqq_1 eqq_2 eqq_3 eqq_4 eqq_5 eqq_6 g h1 h6
theorem nxf_all (g : Nat) (h1 : 1 ≤ g) (h6 : g ≤ 6) : nxK false g = true := six (p := fun g => nxK false g = true) nxf_1 nxf_2 nxf_3 nxf_4 nxf_5 nxf_6 g h1 h6
theorem dn_all (g : Nat) (h1 : 1 ≤ g) (h6 : g ≤ 6) (e : Bool) : dnIK g e = true ∧ dnTK g e = true := by
  cases e
  · exact six (p := fun g => dnIK g false = true ∧ dnTK g false = true) ⟨dnIf_1, dnTf_1⟩ ⟨dnIf_2, dnTf_2⟩ ⟨dnIf_3, dnTf_3⟩ ⟨dnIf_4, dnTf_4⟩ ⟨dnIf_5, dnTf_5⟩ ⟨dnIf_6, dnTf_6⟩ g h1 h6
  · exact six (p := fun g => dnIK g true = true ∧ dnTK g true = true) ⟨dnIt_1, dnTt_1⟩ ⟨dnIt_2, dnTt_2⟩ ⟨dnIt_3, dnTt_3⟩ ⟨dnIt_4, dnTt_4⟩ ⟨dnIt_5, dnTt_5⟩ ⟨dnIt_6, dnTt_6⟩ g h1 h6
theorem kCl_ok (h : RowR g ρ) {b : Nat} (hk : clK g b = true) : KnownOk Tryz.prog 66 (kCl b) ρ := by
  have K : KnownOk Tryz.prog 66 (kClG g b) ρ := known_of mixJ (smZ_ok ρ) rN_ok hk
  refine K.ret sat_nil (fun θ => ?_) ⟨rfl, rowE_eq h b, trivial⟩ (fun θ => (rowV_d h 1 θ).symm) ⟨rfl, (rowE_eq h b).symm, rfl, (rowE_eq h b).symm, trivial⟩ rfl rfl sat_nil rfl rfl rfl rfl
  show dens ρ θ [rowV 0] = dens ρ θ [rowS 0 g]
  simp only [dens, rowV_d h]
theorem kEq_ok (h : RowR g ρ) : KnownOk Tryz.prog 26 kEq ρ := by
  have K : KnownOk Tryz.prog 26 (kEqG g) ρ := known_of mixJ (smZ_ok ρ) rN_ok (eq_all g h.g1 h.g6)
  refine K.ret sat_nil (fun θ => ?_) ⟨rfl, rowE_eq h _, rfl, rowE_eq h _, trivial⟩ (fun θ => rfl) ⟨rfl, (rowE_eq h _).symm, rfl, (rowE_eq h _).symm, trivial⟩ rfl rfl sat_nil rfl rfl rfl rfl
  show dens ρ θ [rowV 0, rowV 1] = dens ρ θ [rowS 0 g, rowS 1 g]
  simp only [dens, rowV_d h]
theorem kNx_ok (h : RowR g ρ) {e : Bool} (hk : nxK e g = true) (hs : Sat ρ (carQ e g)) : KnownOk Tryz.prog 46 (kNx e) ρ := by
  have K : KnownOk Tryz.prog 46 (kNxG e g) ρ := known_of mixJ (smZ_ok ρ) rN_ok hk
  refine K.ret hs (fun θ => ?_) ⟨rfl, rowK_eq h, trivial⟩ (fun θ => ?_) ⟨rfl, (rowK_eq h).symm, rfl, (rowK_eq h).symm, trivial⟩ rfl rfl sat_nil rfl rfl rfl rfl
  · show dens ρ θ [svx .i64 (lenS (newX e)), rowV 0] = dens ρ θ [svx .i64 (lenS (newX e)), rowS 0 g]
    simp only [dens, rowV_d h]
  · show den ρ θ (.tu [rowS 1 g, okV0]) = den ρ θ (.tu [rowV 1, okV0])
    simp only [den, dens, rowV_d h]
end
end X
end Go.Proofs.YtdbchpoaoghgpaaGreatDoor

set_option linter.unusedSimpArgs false
set_option linter.unusedVariables false
namespace Go.Proofs.YtdbchpoaoghgpaaGreatDoor
namespace X
open Go.RowKit B
set_option maxRecDepth 1000000

noncomputable def cParts : Code := bodyOf Tryz.f96.body
theorem fn_parts : Tryz.prog.funcs[96]? = some Tryz.f96 := by kernel_rfl
theorem join_parts (t : Trig2) : Tryz.f96.body = some (mkX cParts [t]).1.code := by kernel_rfl
noncomputable def smRd : SumT := withF 96 (callX' Tryz.prog smS 96 cParts [partsTrig 5 (ccR [.a 8] [.a 7])]) smS
theorem read_k : runK (go smRd 55) kRead.a0 kRead.l0 (kRead.pc0 ++ v5P) rN kRead = true := by kernel_rfl
noncomputable def cGuard : Code := bodyOf Tryz.f7.body
theorem fn_guard : Tryz.prog.funcs[7]? = some Tryz.f7 := by kernel_rfl
theorem join_guard (t : Trig2) : Tryz.f7.body = some (mkX cGuard [t]).1.code := by kernel_rfl
noncomputable def gGuard : SumF := callX' Tryz.prog smS 7 cGuard [guardTrig 5 (ccS [.a 7] [.a 8])]
theorem guard_k : runK gGuard guardK.a0 guardK.l0 (guardK.pc0 ++ v5P) guardR guardK = true := by kernel_rfl
section
variable {ρ : Rho} {g : Nat}
theorem kRead_ok (h8 : ρ.s 8 = guardF (ρ.s 7)) : KnownOk Tryz.prog 55 kRead ρ := fun h0 => by
  let ρ1 : Rho := ⟨fun _ => 0, ρ.s⟩
  have q : (ρ.s 7).length ≤ 40 := by
    have := h0 (.mk 40 [(29, -1)]) (by simp [kRead, f7])
    have a7 : ρ.at 29 = ((ρ.s 7).length : Int) := ρ.at_l 7
    simp only [Lin.den, dts, a7] at this; omega
  have d7 : denS ρ1 [.a 7] = ρ.s 7 := d1 (ρ := ρ1) 7
  have d8 : denS ρ1 [.a 8] = ρ.s 8 := d1 (ρ := ρ1) 8
  obtain ⟨I, hI⟩ := ccR_ok (ρ0 := ρ1) rfl (Y := [.a 8]) (f := [.a 7]) (by rw [d7]; omega) (by rw [d7, d8]; exact h8)
  have sum : SumOk Tryz.prog ρ1 smRd := withF_ok (smS_ok ρ1) (callX_ok mixJ (fun ρ' _ => smS_ok ρ') fn_parts (join_parts _) fun t ht => by
    have : t = partsTrig 5 (ccR [.a 8] [.a 7]) := by simpa using ht
    rw [this]; exact trc_ok (fun _ _ _ _ => partsTrig_c) hI)
  have K : KnownOk Tryz.prog 55 kRead ρ1 := known_r (callBy_c mixJ sum) rN_ok (fun h => sat_app h (v5_ok rfl)) read_k (by kernel_rfl)
  exact KnownOk.vis (ρ := ρ1) (a := [7, 8]) (b := []) (by kernel_rfl) (by kernel_rfl) (by kernel_rfl) (fun i _ => rfl) (fun i hi => by cases hi) K h0
theorem kRead0_ok (ρ : Rho) : KnownOk Tryz.prog 55 kRead0 ρ := known_of mixJ (smZ_ok ρ) rN_ok rd0_k
/-- guard -/
theorem kGx_ok (h7 : (ρ.s 7).length ≤ 40) (h8 : ρ.s 8 = guardF (ρ.s 7)) : KnownOk Tryz.prog 7 kGx ρ := fun _ => by
  let ρ1 : Rho := ⟨fun _ => 0, ρ.s⟩
  have d7 : denS ρ1 [.a 7] = ρ.s 7 := d1 (ρ := ρ1) 7
  have d8 : denS ρ1 [.a 8] = ρ.s 8 := d1 (ρ := ρ1) 8
  obtain ⟨I, hI⟩ := ccS_ok (ρ0 := ρ1) rfl (Y := [.a 7]) (f := [.a 8]) (by rw [d7]; omega) (by rw [d7, d8]; exact h8)
  have hr : RulesOk ρ1 guardR := rules_ok ⟨fun hg => by
    have := hg (.mk 0 [(33, -1)]) (by simp)
    have a8 : ρ1.at 33 = ((ρ1.s 8).length : Int) := ρ1.at_l 8
    simp only [Lin.den, dts, a8] at this
    have e : ρ1.s 8 = [] := List.length_eq_zero_iff.1 (by omega)
    rw [d8]; show ρ1.s 8 = denS ρ1 []; rw [e]; rfl, trivial⟩ trivial
  have K : KnownOk Tryz.prog 7 guardK ρ1 := known_r (callX_ok mixJ (fun ρ' _ => smS_ok ρ') fn_guard (join_guard _) fun t ht => by
    have : t = guardTrig 5 (ccS [.a 7] [.a 8]) := by simpa using ht
    rw [this]; exact trc_ok (fun _ _ _ _ => guardTrig_c) hI) hr (fun h => sat_app h (v5_ok rfl)) guard_k (by kernel_rfl)
  have K2 : KnownOk Tryz.prog 7 guardK ρ := KnownOk.vis (ρ := ρ1) (a := [7, 8]) (b := []) (by kernel_rfl) (by kernel_rfl) (by kernel_rfl) (fun i _ => rfl) (fun i hi => by cases hi) K
  exact K2 (by
    have a7 : ρ.at 29 = ((ρ.s 7).length : Int) := ρ.at_l 7
    refine sat_cons ?_ sat_nil
    simp only [Lin.den, dts, a7]; omega)
end
end X
end Go.Proofs.YtdbchpoaoghgpaaGreatDoor

set_option linter.unusedSimpArgs false
set_option linter.unusedVariables false
namespace Go.Proofs.YtdbchpoaoghgpaaGreatDoor
namespace X
open Go.RowKit B
set_option maxRecDepth 1000000

/-- the text is told in segments; e: s is empty -/
structure DoneR (g : Nat) (e : Bool) (ρ : Rho) : Prop where
  G : RhoG g ρ
  R : RowR g ρ
  h7 : (10 : UInt8) ∉ ρ.s 7
  h8 : ρ.s 8 = guardF (ρ.s 7)
  he : e = true → ρ.s 7 = []
  sg : denS ρ (segs g) = denS ρ W3
  w : RulesOk ρ (rW g (textP g e))
  p : Sat ρ (dnP g e)
section
variable {ρ : Rho} {g : Nat} {e : Bool}
theorem readD_ok (h8 : ρ.s 8 = guardF (ρ.s 7)) (he : e = true → ρ.s 7 = []) : CallY Tryz.prog ρ 55 (readD e) := by
  cases e with
  | true =>
    have e8 : ρ.s 8 = [] := by rw [h8, he rfl]; rfl
    exact cutI_ok (rules_ok (rs := rRead0) ⟨fun _ => by rw [d1, e8]; rfl, trivial⟩ trivial) (kRead0_ok ρ) rfl
  | false =>
    intro args m nx pc hs
    refine cutP_ok rN_ok (kRead_ok ?_) _ m nx pc hs
    show denS ρ [.a 8] = guardF (denS ρ [.a 7])
    rw [d1, d1]; exact h8
theorem rSg_ok (h : DoneR g e ρ) : RulesOk ρ (rSg g) := rules_ok ⟨fun _ => h.sg, trivial⟩ trivial
theorem rTy_ok (h : DoneR g e ρ) : RulesOk ρ (rTy g e) := by
  cases e with
  | true => exact rules_ok ⟨fun _ => h.sg, fun _ => by rw [d1, h.he rfl]; rfl, trivial⟩ trivial
  | false => exact rules_ok ⟨fun _ => h.sg, trivial⟩ trivial
theorem smDn_ok (h : DoneR g e ρ) : SumOk Tryz.prog ρ (smDn g e fSp) :=
  withF_ok (withF_ok (withF_ok (withF_ok (smZ_ok ρ) (spanD_ok h.G)) (cutI_ok (rTy_ok h) (kFdo_ok h.G h.R.g1 e h.w) rfl)) (cutI_ok (rSg_ok h) (kIns_ok h.G h.R.g1 e h.h7 h.w) rfl)) (readD_ok h.h8 h.he)
theorem kIx_ok (h : DoneR g e ρ) : KnownOk Tryz.prog 23 (kIx false) ρ := by
  have hk := (dn_all g h.R.g1 h.R.g6 e).1
  have K : KnownOk Tryz.prog 23 { kDnI g with pc0 := dnP g e } ρ := known_of mixJ (smDn_ok h) rN_ok hk
  refine K.ret h.p (fun θ => ?_) ⟨rfl, EqB.refl, rfl, rowD_eq h.R, trivial⟩ (fun θ => ?_) ⟨rfl, EqB.refl, rfl, (rowK_eq h.R).symm, trivial⟩ rfl rfl sat_nil rfl rfl rfl rfl
  · show dens ρ θ [.p 0 0, .ag [.s W3, rowV 1, .ns], opV 7 [.a 8]] = dens ρ θ [.p 0 0, .ag [.s W3, rowS 1 g, .ns], opV 7 [.a 8]]
    simp only [den, dens, rowV_d h.R]
  · show den ρ θ (.tu [.ag [.s N3, rowS 4 g, .sl 5 0 0 (.q 2)], okV0]) = den ρ θ (.tu [.ag [.s N3, rowV 4, .sl 5 0 0 (.q 2)], okV0])
    simp only [den, dens, rowV_d h.R]
theorem shX_eq (h : RowR g ρ) : EqB ρ ρ shX (shB g) := fun θ w t => by
  have e : dens ρ θ [.p 3 0, .p 4 0, rowV 5] = dens ρ θ [.p 3 0, .p 4 0, rowS 5 g] := by simp only [dens, rowV_d h]
  have e : dens ρ θ [.p 3 0, .p 4 0, rowV 5] = dens ρ θ [.p 3 0, .p 4 0, .sl 5 0 g (.q 2)] := e
  show HoldsB ρ θ w t (.ce 110 [.p 3 0, .p 4 0, rowV 5] true) ↔ HoldsB ρ θ w t (.ce 110 [.p 3 0, .p 4 0, .sl 5 0 g (.q 2)] true)
  simp only [HoldsB, e]
theorem kTx_ok (h : DoneR g e ρ) : KnownOk Tryz.prog 23 (kTx false) ρ := by
  have hk := (dn_all g h.R.g1 h.R.g6 e).2
  have K : KnownOk Tryz.prog 23 { kDnT g with pc0 := dnP g e } ρ := known_of mixJ (smDn_ok h) rN_ok hk
  refine K.ret h.p (fun θ => ?_) ⟨rfl, EqB.refl, rfl, rowD_eq h.R, rfl, shX_eq h.R, rfl, rowD_eq h.R, trivial⟩ (fun θ => ?_) ⟨rfl, EqB.refl, rfl, (shX_eq h.R).symm, rfl, (rowD_eq h.R).symm, rfl, (rowK_eq h.R).symm, trivial⟩ rfl rfl sat_nil rfl rfl rfl rfl
  · show dens ρ θ [.p 0 0, .ag [.s W3, rowV 1, .ns], opV 2 [.a 7]] = dens ρ θ [.p 0 0, .ag [.s W3, rowS 1 g, .ns], opV 2 [.a 7]]
    simp only [den, dens, rowV_d h.R]
  · show den ρ θ (.tu [.ag [.s N3, rowS 7 g, .ns], okV0]) = den ρ θ (.tu [.ag [.s N3, rowV 7, .ns], okV0])
    simp only [den, dens, rowV_d h.R]
end
end X
end Go.Proofs.YtdbchpoaoghgpaaGreatDoor

set_option linter.unusedSimpArgs false
set_option linter.unusedVariables false
namespace Go.Proofs.YtdbchpoaoghgpaaGreatDoor
namespace X
open Go.RowKit B
set_option maxRecDepth 1000000

section
variable {P : Program} {ρ : Rho} {f : Nat}
theorem CallR.loose1 {args : List SV} {m0 : Mem} {nx0 : Nat} {r : O4} {l1 : ML} {hi : Nat} (h : CallR P ρ f args m0 nx0 r) (hl : mkK l1 .lf (fun _ => true) = true) (he : looseEnd1 l1 hi r.v r.m r.nx r.pc = true) : CallR P ρ f args m0 nx0 ⟨.su hi, mkU l1 .lf, hi + 1, []⟩ := by
  unfold looseEnd1 at he
  split at he
  · rename_i t n z hv
    simp only [Bool.and_eq_true, Nat.ble_eq] at he
    obtain ⟨⟨e1, e2⟩, e3⟩ := he
    have e3 := allL_ok e3
    have told := (mkK_told hl).2
    have sub : ∀ t b, (mkU l1 .lf).get t = some b → r.m.get t = some b := fun t b hb => eqBlk_ok (e3 t b (told t b hb))
    have ne : ∀ t, (mkU l1 .lf).get t ≠ none → r.m.get t ≠ none := fun t ht => by
      cases hb : (mkU l1 .lf).get t with
      | none => exact absurd hb ht
      | some b => rw [sub t b hb]; simp
    have hle := h.le
    refine ⟨h.enter, sat_nil, by show nx0 ≤ hi + 1; omega, fun t h1 h2 => by have := h.new t h1 (ne t h2); exact ⟨this.1, by show t < hi + 1; omega⟩, fun w θ vs hvs hM hfr => ?_⟩
    refine calls_mono (h.run w θ vs hvs hM fun t q1 q2 => hfr t q1 (by show t < hi + 1; omega)) fun e w' ⟨v, θ', h1, h2, h3⟩ => ?_
    rw [hv] at h3
    simp only [den, Option.map_eq_some_iff] at h3
    obtain ⟨g, g1, rfl⟩ := h3
    have hno : θ' hi = none := by
      cases hq : θ' hi with
      | none => rfl
      | some x =>
        rcases h2.new hi (by rw [hq]; simp) with q | q
        · exact absurd (hfr hi (by omega) (by show hi < hi + 1; omega)) q
        · omega
    have up : ∀ u x, θ' u = some x → updT θ' hi (g.1, n + 18446744073709551616 * ((g.2 - 0) / z)) u = some x := fun u x hx => by
      unfold updT
      rw [if_neg fun e => by rw [e, hno] at hx; cases hx]
      exact hx
    have old : ∀ u, (mkU l1 .lf).get u ≠ none → updT θ' hi (g.1, n + 18446744073709551616 * ((g.2 - 0) / z)) u = θ' u := fun u hu => by
      unfold updT
      refine if_neg fun e => ?_
      have := ne u hu
      cases hb : r.m.get u with
      | none => exact absurd hb this
      | some b =>
        obtain ⟨g', c', x1, _⟩ := (h2.mem.holds u b hb).th
        rw [e, hno] at x1; cases x1
    refine ⟨_, updT θ' hi (g.1, n + 18446744073709551616 * ((g.2 - 0) / z)), h1, ⟨h2.le.trans up, fun u hu => ?_, ⟨fun u b hb => ?_, fun u1 u2 y c c' q1 q2 q3 q4 => ?_⟩, h2.ext, fun y ⟨u, c, q1, q2⟩ => ?_⟩, ?_⟩
    · by_cases e : u = hi
      · exact .inr ⟨by omega, by show u < hi + 1; omega⟩
      · have : θ' u ≠ none := by
          intro q
          refine hu ?_
          unfold updT
          rw [if_neg e]; exact q
        rcases h2.new u this with q | q
        · exact .inl q
        · exact .inr ⟨q.1, by show u < hi + 1; omega⟩
    · exact (h2.mem.holds u b (sub u b hb)).keep up (Ext.refl none' _) fun _ _ _ h => h
    · rw [old u1 q1] at q3
      rw [old u2 q2] at q4
      exact h2.mem.inj u1 u2 y c c' (ne u1 q1) (ne u2 q2) q3 q4
    · rw [old u q1] at q2
      exact h2.own y ⟨u, c, ne u q1, q2⟩
    · have e1 : updT θ' hi (g.1, n + 18446744073709551616 * ((g.2 - 0) / z)) hi = some (g.1, n + 18446744073709551616 * ((g.2 - 0) / z)) := by unfold updT; rw [if_pos rfl]
      have e2 : (n + 18446744073709551616 * ((g.2 - 0) / z)) % 18446744073709551616 = n := by omega
      have e3 : (n + 18446744073709551616 * ((g.2 - 0) / z)) / 18446744073709551616 = (g.2 - 0) / z := by omega
      simp only [den, e1, e2, e3, Option.map_some, Cap.den]
  · cases he
end
section
variable {ρ : Rho} {g : Nat}
/-! ### The places moved along -/
def mvF (x f t n : Int) : Int := if x < f then x else if t < x then x + n - (t - f) else f + n
theorem kMvV_ok (hv : ρ.v 4503 = mvF (ρ.v 4500) (ρ.v 4501) (ρ.v 4502) ((ρ.s 6).length : Int)) : KnownOk Tryz.prog 175 kMvV ρ := by
  have n0 : (lv 9000).den ρ = ρ.v 4500 := lv_v 4500
  have n1 : (lv 9002).den ρ = ρ.v 4501 := lv_v 4501
  have n2 : (lv 9004).den ρ = ρ.v 4502 := lv_v 4502
  have n3 : (lv 9006).den ρ = ρ.v 4503 := lv_v 4503
  have a0 : ρ.at 9000 = ρ.v 4500 := ρ.at_v 4500
  have a1 : ρ.at 9002 = ρ.v 4501 := ρ.at_v 4501
  have a2 : ρ.at 9004 = ρ.v 4502 := ρ.at_v 4502
  have l6 : ρ.at 25 = ((ρ.s 6).length : Int) := ρ.at_l 6
  refine known_of mixJ (smZ_ok ρ) (rules_ok (rs := rMvV) trivial ⟨fun hg => ?_, fun hg => ?_, fun hg => ?_, trivial⟩) mvv_k
  · have h1 := hg (gt (lv 9002) (lv 9000)) (by simp [mP1])
    rw [gt_den, n0, n1] at h1
    rw [n3, n0, hv]; unfold mvF
    rw [if_pos (by omega)]
  · have h1 := hg (ge (lv 9004) (lv 9002)) (by simp [mP2])
    have h2 := hg (gt (lv 9000) (lv 9004)) (by simp [mP2])
    rw [ge_den, n1, n2] at h1
    rw [gt_den, n0, n2] at h2
    rw [n3, hv]; unfold mvF
    rw [if_neg (by omega), if_pos (by omega)]
    simp only [mV2, Lin.den, dts, a0, a1, a2, l6]
    omega
  · have h1 := hg (ge (lv 9000) (lv 9002)) (by simp [mP3])
    have h2 := hg (ge (lv 9004) (lv 9000)) (by simp [mP3])
    rw [ge_den, n0, n1] at h1
    rw [ge_den, n0, n2] at h2
    rw [n3, hv]; unfold mvF
    rw [if_neg (by omega), if_neg (by omega)]
    simp only [mV3, Lin.den, dts, a1, l6]
    omega
/-- elements 0 up to g: what is moved -/
structure MovR (g : Nat) (ρ : Rho) : Prop where
  a : ∀ j, j < g → ρ.v (1000 + 4 * j) = mvF (ρ.v (4600 + 2 * j)) (ρ.v 4501) (ρ.v 4502) ((ρ.s 5).length : Int)
  h : ∀ j, j < g → ρ.v (1001 + 4 * j) = mvF (ρ.v (4601 + 2 * j)) (ρ.v 4501) (ρ.v 4502) ((ρ.s 5).length : Int)
theorem mvvG_ok (hm : MovR g ρ) : CallY Tryz.prog ρ 175 (mvvG g) := fun args m nx pc hs => by
  unfold mvvG
  split
  · rename_i i b c
    split
    · rename_i hi
      have hi : i < 9200 + 4 * g := by have := hi; simp only [Nat.blt_eq] at this; exact this
      have hun : ∀ K : O4 → Bool, mvvD [.x .i64 (.mk 0 [(i, 1)]), b, c] m nx pc (fun v m nx pc => K ⟨v, m, nx, pc⟩) = (match Nat.ble 9200 i && Nat.blt i 9224 && Nat.beq (Nat.mod i 2) 0 with
        | true => match Nat.beq (Nat.mod i 4) 0 with
          | true => cutP rN kMvV ⟨[(6, [.a 5])], [(4500, lv i), (4501, lv 9002), (4502, lv 9004), (4503, lv (eA (Nat.div (Nat.sub i 9200) 4)))]⟩ [.x .i64 (.mk 0 [(i, 1)]), b, c] m nx pc (fun v m nx pc => K ⟨v, m, nx, pc⟩)
          | false => cutP rN kMvV ⟨[(6, [.a 5])], [(4500, lv i), (4501, lv 9002), (4502, lv 9004), (4503, lv (eH (Nat.div (Nat.sub i 9200) 4)))]⟩ [.x .i64 (.mk 0 [(i, 1)]), b, c] m nx pc (fun v m nx pc => K ⟨v, m, nx, pc⟩)
        | false => false) := fun K => rfl
      simp only [hun]
      split
      · rename_i hc
        simp only [Bool.and_eq_true, Nat.ble_eq, Nat.blt_eq, Nat.beq_eq] at hc
        obtain ⟨⟨c1, c2⟩, c3⟩ := hc
        have c3 : i % 2 = 0 := c3
        split
        · rename_i h4
          have h4 : i % 4 = 0 := Nat.eq_of_beq_eq_true h4
          obtain ⟨j, rfl⟩ : ∃ j, i = 9200 + 4 * j := ⟨(i - 9200) / 4, by omega⟩
          refine cutP_ok rN_ok (kMvV_ok ?_) _ m nx pc hs
          have e1 : eA (Nat.div (Nat.sub (9200 + 4 * j) 9200) 4) = 2 * (1000 + 4 * j) := by
            show 2000 + 8 * ((9200 + 4 * j - 9200) / 4) = _; omega
          show (lv (eA (Nat.div (Nat.sub (9200 + 4 * j) 9200) 4))).den ρ = mvF ((lv (9200 + 4 * j)).den ρ) ((lv (2 * 4501)).den ρ) ((lv (2 * 4502)).den ρ) ((denS ρ [.a 5]).length : Int)
          rw [e1, show 9200 + 4 * j = 2 * (4600 + 2 * j) by omega, lv_v, lv_v, lv_v, lv_v, d1]
          exact hm.a j (by omega)
        · rename_i h4
          have h4 : i % 4 ≠ 0 := fun e => by rw [show Nat.beq (Nat.mod i 4) 0 = true from by rw [show Nat.mod i 4 = 0 from e]; rfl] at h4; cases h4
          obtain ⟨j, rfl⟩ : ∃ j, i = 9202 + 4 * j := ⟨(i - 9202) / 4, by omega⟩
          refine cutP_ok rN_ok (kMvV_ok ?_) _ m nx pc hs
          have e1 : eH (Nat.div (Nat.sub (9202 + 4 * j) 9200) 4) = 2 * (1001 + 4 * j) := by
            show 2002 + 8 * ((9202 + 4 * j - 9200) / 4) = _; omega
          show (lv (eH (Nat.div (Nat.sub (9202 + 4 * j) 9200) 4))).den ρ = mvF ((lv (9202 + 4 * j)).den ρ) ((lv (2 * 4501)).den ρ) ((lv (2 * 4502)).den ρ) ((denS ρ [.a 5]).length : Int)
          rw [e1, show 9202 + 4 * j = 2 * (4601 + 2 * j) by omega, lv_v, lv_v, lv_v, lv_v, d1]
          exact hm.h j (by omega)
      · exact Yl.no
    · exact Yl.no
  · exact Yl.no
theorem sm_all (g : Nat) (h1 : 1 ≤ g) (h6 : g ≤ 6) : smK g = true := six (p := fun g => smK g = true) smv_1 smv_2 smv_3 smv_4 smv_5 smv_6 g h1 h6
theorem kSm_ok {xs : List Se} (hN : NormR ρ xs) (hm : MovR xs.length ρ) (hL : ∀ x ∈ xs, tE x ≤ ((ρ.s 6).length : Int)) (hq : Sat ρ (smvQ xs.length)) : KnownOk Tryz.prog 115 { kSm xs.length with pc0 := [] } ρ := fun _ => by
  have sum : SumOk Tryz.prog ρ (smMv xs.length) := withF_ok (smN4_ok hN) (mvvG_ok hm)
  obtain ⟨hk, _⟩ := mkK_told (sm_all xs.length hN.n1 hN.n6)
  obtain ⟨r, q, he, _⟩ := callBy_ok mixJ sum 1000000 115 _ _ 2 (appL (smvQ xs.length) (normP xs.length)) (sat_appL.2 ⟨hq, hN.normP_ok hL⟩) (fun r => looseEnd1 (smvL xs.length) 3000 r.v r.m r.nx r.pc) hk
  exact q.loose1 (by rfl) he
/-! ### .. of any row -/
def mvS (ρ : Rho) (f t n : Int) (j : Nat) : Se := (mvF (ρ.v (5010 + 2 * j)) f t n, mvF (ρ.v (5011 + 2 * j)) f t n)
def baseS (ρ : Rho) (f t : Int) (j : Nat) : Int := if j = 4501 then f else if j = 4502 then t else if 4600 ≤ j ∧ j < 4612 then ρ.v (j + 410) else 0
def rho2 (ρ : Rho) (g : Nat) (f t : Int) (l : List UInt8) : Rho := ⟨rhoV ((List.range g).map (mvS ρ f t l.length)) (baseS ρ f t), fun i => match i with
  | 5 => l
  | 6 => List.replicate 1000 0
  | _ => []⟩
theorem mvF_bnd {x f t n : Int} (hx : 0 ≤ x) (hx2 : x ≤ 60) (hf : 0 ≤ f) (ht : f ≤ t) (ht2 : t ≤ 60) (hn : 0 ≤ n) (hn2 : n ≤ 400) : 0 ≤ mvF x f t n ∧ mvF x f t n ≤ 1000 := by
  unfold mvF
  split
  · omega
  · split <;> omega
theorem kS_ok (h : RowR g ρ) {f t : Int} {l : List UInt8} (hf : 0 ≤ f) (ht : f ≤ t) (ht2 : t ≤ 60) (hl : l.length ≤ 400) (hel : ∀ i, i < 2 * g → 0 ≤ ρ.v (5010 + i) ∧ ρ.v (5010 + i) ≤ 60) {u v w : SV}
    (he : ∀ θ, dens ρ θ [u, v, w] = dens (rho2 ρ g f t l) θ [xl (lv 9002), xl (lv 9004), .s [.a 5]]) : KnownOk Tryz.prog 115 ⟨[rowV 0, .sl 1 0 1 (.k 1)], [(0, rowB 5010), (1, .ce 132 [u, v, w] true)], 2, [], .su 3000, [(0, rowB 5010), (1, .ce 132 [u, v, w] true)], 3001, []⟩ ρ := by
  have g1 := h.g1
  have g6 := h.g6
  have hlen : ((List.range g).map (mvS ρ f t l.length)).length = g := by simp
  have bnd : ∀ x ∈ (List.range g).map (mvS ρ f t l.length), 0 ≤ fE x ∧ tE x ≤ 1000 := fun x hx => by
    obtain ⟨j, hj, rfl⟩ := List.mem_map.1 hx
    have hj := List.mem_range.1 hj
    have e1 := hel (2 * j) (by omega)
    have e2 := hel (2 * j + 1) (by omega)
    rw [show 5010 + (2 * j + 1) = 5011 + 2 * j by omega] at e2
    have b1 := mvF_bnd (n := (l.length : Int)) e1.1 e1.2 hf ht ht2 (by omega) (by omega)
    have b2 := mvF_bnd (n := (l.length : Int)) e2.1 e2.2 hf ht ht2 (by omega) (by omega)
    show 0 ≤ min (mvF _ _ _ _) (mvF _ _ _ _) ∧ max (mvF _ _ _ _) (mvF _ _ _ _) ≤ 1000
    omega
  have hN : NormR (rho2 ρ g f t l) ((List.range g).map (mvS ρ f t l.length)) := rhoV_ok (by rw [hlen]; exact g1) (by rw [hlen]; exact g6) bnd
  have vb : ∀ j, 3007 ≤ j → (rho2 ρ g f t l).v j = baseS ρ f t j := fun j hj => by
    show rhoV _ _ j = _
    unfold rhoV
    rw [if_neg (by omega), if_neg (by omega)]
  have v1 : (rho2 ρ g f t l).v 4501 = f := by rw [vb _ (by omega)]; rfl
  have v2 : (rho2 ρ g f t l).v 4502 = t := by rw [vb _ (by omega)]; rfl
  have vo : ∀ i, i < 2 * g → (rho2 ρ g f t l).v (4600 + i) = ρ.v (5010 + i) := fun i hi => by
    rw [vb _ (by omega)]
    unfold baseS
    rw [if_neg (by omega), if_neg (by omega), if_pos (by omega), show 4600 + i + 410 = 5010 + i by omega]
  have xj : ∀ j, j < g → elF ((List.range g).map (mvS ρ f t l.length)) j = mvS ρ f t l.length j := fun j hj => by
    rw [el_in (by omega), List.getD_eq_getElem?_getD, List.getElem?_map, List.getElem?_range hj]; rfl
  have hm : MovR g (rho2 ρ g f t l) := ⟨fun j hj => by
    rw [hN.a j (by omega), xj j hj, v1, v2, vo _ (by omega)]; rfl, fun j hj => by
    rw [hN.h j (by omega), xj j hj, v1, v2, show 4601 + 2 * j = 4600 + (2 * j + 1) by omega, vo _ (by omega), show 5010 + (2 * j + 1) = 5011 + 2 * j by omega]; rfl⟩
  have hq : Sat (rho2 ρ g f t l) (smvQ g) := by
    have n1 : (rho2 ρ g f t l).at 9002 = f := ((rho2 ρ g f t l).at_v 4501).trans v1
    have n2 : (rho2 ρ g f t l).at 9004 = t := ((rho2 ρ g f t l).at_v 4502).trans v2
    have l5 : (rho2 ρ g f t l).at 21 = (l.length : Int) := (rho2 ρ g f t l).at_l 5
    refine sat_appL.2 ⟨?_, fun e he => ?_⟩
    · refine sat_cons ?_ (sat_cons ?_ (sat_cons ?_ (sat_cons ?_ sat_nil))) <;> simp only [Lin.den, dts, n1, n2, l5] <;> omega
    · obtain ⟨j, hj, he⟩ := mem_catL.1 he
      have hj := (mem_upto.1 hj).2
      have e1 := hel (2 * j) (by omega)
      have e2 := hel (2 * j + 1) (by omega)
      have d1 : (lv (9200 + 4 * j)).den (rho2 ρ g f t l) = ρ.v (5010 + 2 * j) := by
        rw [show 9200 + 4 * j = 2 * (4600 + 2 * j) by omega, lv_v, vo _ (by omega)]
      have d2 : (lv (9202 + 4 * j)).den (rho2 ρ g f t l) = ρ.v (5010 + (2 * j + 1)) := by
        rw [show 9202 + 4 * j = 2 * (4600 + (2 * j + 1)) by omega, lv_v, vo _ (by omega)]
      have le : ∀ (e : Lin) (n : Nat), (le' e n).den (rho2 ρ g f t l) = n - e.den (rho2 ρ g f t l) := fun e n => by
        unfold le'; rw [sub_den, const_den]; rfl
      simp only [List.mem_cons, List.not_mem_nil, or_false] at he
      rcases he with rfl | rfl | rfl | rfl
      · show 0 ≤ (lv (9200 + 4 * j)).den _; rw [d1]; omega
      · rw [le]; show 0 ≤ ((60 : Nat) : Int) - (lv (9200 + 4 * j)).den _; rw [d1]; omega
      · show 0 ≤ (lv (9202 + 4 * j)).den _; rw [d2]; omega
      · rw [le]; show 0 ≤ ((60 : Nat) : Int) - (lv (9202 + 4 * j)).den _; rw [d2]; omega
  have K := kSm_ok hN (by rw [hlen]; exact hm) (fun x hx => by
    show tE x ≤ ((List.replicate 1000 (0 : UInt8)).length : Int)
    rw [List.length_replicate]
    exact (bnd x hx).2) (by rw [hlen]; exact hq)
  rw [hlen] at K
  have rowO : EqB ρ (rho2 ρ g f t l) (rowB 5010) (.ce 51 (oldC g) false) := row_eq fun θ => by
    have e := dens_two (ρ := rho2 ρ g f t l) (θ := θ) (b := 4600) (a := fun j => lv (9200 + 4 * j)) (h := fun j => lv (9202 + 4 * j)) (g := g) (s := 0) fun j _ hj => ⟨by
      rw [show 9200 + 4 * j = 2 * (4600 + 2 * j) by omega, lv_v], by
      rw [show 9202 + 4 * j = 2 * (4600 + 2 * j + 1) by omega, lv_v]⟩
    refine (show dens (rho2 ρ g f t l) θ (oldC g) = _ from e).trans ?_
    rw [pairs_of h.n, List.range_eq_range']
    refine congrArg some (List.map_congr_left fun i hi => ?_)
    rw [vo i (by have := List.mem_range'_1.1 hi; omega)]
  have edE : EqB ρ (rho2 ρ g f t l) (.ce 132 [u, v, w] true) (.ce 132 [xl (lv 9002), xl (lv 9004), .s [.a 5]] true) := fun θ w' t' => by
    simp only [HoldsB, he θ]
  refine K.ret sat_nil (fun θ => ?_) ⟨rfl, rowO, rfl, edE, trivial⟩ (fun θ => rfl) ⟨rfl, rowO.symm, rfl, edE.symm, trivial⟩ rfl rfl sat_nil rfl rfl rfl rfl
  show dens ρ θ [rowV 0, .sl 1 0 1 (.k 1)] = dens (rho2 ρ g f t l) θ [.sl 0 0 g (.q 2), .sl 1 0 1 (.k 1)]
  simp only [dens, rowV_d h]
  rfl
end
end X
end Go.Proofs.YtdbchpoaoghgpaaGreatDoor

set_option linter.unusedSimpArgs false
set_option linter.unusedVariables false
namespace Go.Proofs.YtdbchpoaoghgpaaGreatDoor
namespace X
open Go.RowKit B
set_option maxRecDepth 1000000

section
variable {ρ : Rho} {P : Program}
theorem CallR.arg {f : Nat} {args args' : List SV} {m : Mem} {nx : Nat} {r : O4} (h : CallR P ρ f args m nx r) (ha : ∀ θ, dens ρ θ args' = dens ρ θ args) : CallR P ρ f args' m nx r :=
  ⟨h.enter, h.pc, h.le, h.new, fun w θ vs hvs hM hfr => h.run w θ vs (by rw [← ha]; exact hvs) hM hfr⟩
/-! ### Copies -/
theorem kCl_any {g : Nat} (h : RowR g ρ) (b : Nat) : KnownOk Tryz.prog 66 (kCl b) ρ := by
  let ρ' : Rho := ⟨fun j => if 5010 ≤ j then ρ.v (b + (j - 5010)) else ρ.v j, ρ.s⟩
  have hn : ρ'.v 5000 = g := h.n
  have K : KnownOk Tryz.prog 66 (kClG g 5010) ρ' := known_of mixJ (smZ_ok ρ') rN_ok (cl_all g h.g1 h.g6).1
  have hv : ∀ i, ρ'.v (5010 + i) = ρ.v (b + i) := fun i => by
    show (if 5010 ≤ 5010 + i then ρ.v (b + (5010 + i - 5010)) else ρ.v (5010 + i)) = _
    rw [if_pos (by omega), show 5010 + i - 5010 = i by omega]
  have hE : EqB ρ ρ' (rowB b) (rowE g 5010) := row_eq fun θ => by
    have e := row_dens (ρ := ρ') (b := 5010) hn (a := fun j => lv (2 * (5010 + 2 * j))) (h := fun j => lv (2 * (5010 + 2 * j + 1))) (fun j hj => ⟨lv_v (5010 + 2 * j), lv_v (5010 + 2 * j + 1)⟩) θ
    refine (show dens ρ' θ (rowC g 5010) = _ from e).trans ?_
    rw [pairs_of hn, pairs_of h.n]
    refine congrArg some (List.map_congr_left fun j _ => ?_)
    rw [hv]
  refine K.ret sat_nil (fun θ => ?_) ⟨rfl, hE, trivial⟩ (fun θ => ?_) ⟨rfl, hE.symm, rfl, hE.symm, trivial⟩ rfl rfl sat_nil rfl rfl rfl rfl
  · show dens ρ θ [rowV 0] = dens ρ' θ [rowS 0 g]
    simp only [dens, rowV_d h]
    rfl
  · show den ρ' θ (rowS 1 g) = den ρ θ (rowV 1)
    rw [rowV_d h]; rfl
theorem cloneX_ok {g : Nat} (h : RowR g ρ) {f : SumF} (hf : CallY Tryz.prog ρ 66 f) : CallY Tryz.prog ρ 66 (cloneX f) := fun args m nx pc hs => by
  unfold cloneX
  split
  · split
    · refine Yl.bind frn_yl fun b hb => ?_
      exact cutI_ok rN_ok (kCl_any h b) rfl _ m nx pc hs
    · exact Yl.no
  · exact hf args m nx pc hs
/-! ### A text of one piece -/
theorem textD_ok (hk : KnownOk Tryz.prog 50 kTw ρ) {f : SumF} (hf : CallY Tryz.prog ρ 50 f) : CallY Tryz.prog ρ 50 (textD f) := fun args m nx pc hs => by
  unfold textD
  split
  · split
    · split
      · exact cutI_ok rN_ok hk rfl _ m nx pc hs
      · exact hf _ m nx pc hs
    · exact hf _ m nx pc hs
  · exact hf args m nx pc hs
/-! ### What is turned -/
/-- 10, 12: what the old and the new text have alike; 11, 13 -/
structure TurnR (ρ : Rho) : Prop where
  l : (denS ρ W3).length ≤ 1000
  l' : (denS ρ N3).length ≤ 1000
  a : ρ.s 10 = (denS ρ W3).take (frF (denS ρ W3) (denS ρ N3))
  b : ρ.s 11 = midF (denS ρ W3) (denS ρ N3)
  c : ρ.s 13 = midG (denS ρ W3) (denS ρ N3)
theorem enterTurn (args : Array Value) (w : World) : (callFunc 62 args).run Tryz.prog w = .ok (.enter 62 args) w := enter_run (fn := Tryz.f62) (by kernel_rfl) (by kernel_rfl) rfl args w
theorem bstr_tl (l : List UInt8) : (bstr l).data.toList = l := by simp [bstr]
theorem turn_y {s t : List UInt8} {m : Mem} {nx : Nat} {pc : PC} {A B : Str} {X Y : SV} {C : Str} (hs : Sat ρ pc) (hA : denS ρ A = s) (hB : denS ρ B = t) (hC : denS ρ C = midG s t) (hX : ∀ θ, den ρ θ X = some (.int .i64 (frF s t : Nat))) (hY : ∀ θ, den ρ θ Y = some (.int .i64 ((s.length : Int) - (enF s t : Nat)))) (ls : s.length ≤ 1000) (lt : t.length ≤ 1000) :
    CallR Tryz.prog ρ 62 [.s A, .s B] m nx ⟨.ag [X, Y, .s C], m, nx, pc⟩ := CallR.pur enterTurn hs fun θ w vs hvs => by
  simp only [dens, den, hA, hB, Option.bind_some, Option.map_some, Option.some.injEq] at hvs
  subst hvs
  have hcall := turn_c (bstr s) (bstr t) w (by rw [bstr_size]; omega) (by rw [bstr_size]; omega)
  rw [bstr_tl, bstr_tl] at hcall
  refine ⟨_, ?_, hcall⟩
  have q3 := en_le1 (l := s) (m := t)
  have q4 := en_le2 (l := s) (m := t)
  simp only [den, dens, hX, hY, hC, Option.bind_some, Option.map_some, bstr_size, bstr_ext]
  unfold midG
  rw [show t.length - frF s t - enF s t = t.length - enF s t - frF s t by omega]
def turnE (f : SumF) : SumF := fun args m nx pc K => match args with
  | [.s [], .s b] => match eqStr b [.a 13] with
    | true => K (.ag [okV0, okV0, .s [.a 13]]) m nx pc
    | false => f args m nx pc K
  | _ => f args m nx pc K
theorem turnX_t (f : SumF) : turnX true f = turnE f := rfl
theorem turnX_f (f : SumF) : turnX false f = turnD f := rfl
theorem turnX_ok {e : Bool} (h : e = false → TurnR ρ) (h13 : (ρ.s 13).length ≤ 1000) {f : SumF} (hf : CallY Tryz.prog ρ 62 f) : CallY Tryz.prog ρ 62 (turnX e f) := fun args m nx pc hs => by
  cases e with
  | true =>
    rw [turnX_t]
    unfold turnE
    split
    · rename_i b
      split
      · rename_i hb
        have := eqStr_ok hb
        subst this
        have e0 : frF [] (ρ.s 13) = 0 := rfl
        have e1 : enF [] (ρ.s 13) = 0 := by unfold enF; rw [e0]; rfl
        refine Yl.pure (⟨.ag [okV0, okV0, .s [.a 13]], m, nx, pc⟩ : O4) (turn_y (s := []) (t := ρ.s 13) hs rfl (d1 13) ?_ (fun θ => by rw [e0]; rfl) (fun θ => by rw [e1]; rfl) (by simp) h13)
        rw [d1]
        unfold midG
        rw [e0, e1]
        simp
      · exact hf _ m nx pc hs
    · exact hf _ m nx pc hs
  | false =>
    rw [turnX_f]
    have h := h rfl
    unfold turnD
    split
    · rename_i a b
      split
      · rename_i hc
        simp only [Bool.and_eq_true] at hc
        have := eqStr_ok hc.1
        subst this
        have := eqStr_ok hc.2
        subst this
        have l10 : (ρ.s 10).length = frF (denS ρ W3) (denS ρ N3) := by rw [h.a]; exact mid_len1
        have l11 : (ρ.s 11).length = (denS ρ W3).length - frF (denS ρ W3) (denS ρ N3) - enF (denS ρ W3) (denS ρ N3) := by rw [h.b]; exact mid_len2
        have q3 := en_le1 (l := denS ρ W3) (m := denS ρ N3)
        refine Yl.pure (⟨.ag [xl (lenS [.a 10]), xl (lenS [.a 10, .a 11]), .s [.a 13]], m, nx, pc⟩ : O4) (turn_y hs rfl rfl (by rw [d1]; exact h.c) (fun θ => ?_) (fun θ => ?_) h.l h.l')
        · show some (Value.int .i64 ((lenS [.a 10]).den ρ)) = _
          rw [lenS_den, d1, l10]
        · show some (Value.int .i64 ((lenS [.a 10, .a 11]).den ρ)) = _
          rw [lenS_den, show denS ρ [.a 10, .a 11] = ρ.s 10 ++ ρ.s 11 by simp [denS, Pc.den], List.length_append, l10, l11]
          congr 2
          omega
      · exact hf _ m nx pc hs
    · exact Yl.no
/-! ### Pieces of 64 -/
/-- strings b, b + 1, ..: l cut at every 64th byte -/
def Cut (ρ : Rho) (b : Nat) (l : List UInt8) : Prop := ∀ i, i < 5 → ρ.s (b + i) = (l.drop (64 * i)).take 64
theorem chunks_den {b : Nat} {l : List UInt8} (h : Cut ρ b l) : ∀ (k i : Nat), i + k ≤ 5 → denS ρ (mapL Pc.a (upto (b + i) k)) = (l.drop (64 * i)).take (64 * k)
  | 0, i, _ => by simp [upto, mapL, denS]
  | k + 1, i, hk => by
    have ih := chunks_den h k (i + 1) (by omega)
    show denS ρ (.a (b + i) :: mapL Pc.a (upto (b + (i + 1)) k)) = _
    rw [denS_cons, ih]
    show ρ.s (b + i) ++ _ = _
    rw [h i (by omega), show 64 * (i + 1) = 64 * i + 64 by omega, ← List.drop_drop, show 64 * (k + 1) = 64 + 64 * k by omega, List.take_add]
theorem cut_len {b : Nat} {l : List UInt8} (h : Cut ρ b l) {i : Nat} (hi : i < 5) : (ρ.s (b + i)).length = min 64 (l.length - 64 * i) := by
  rw [h i hi, List.length_take, List.length_drop]
theorem len_a (i : Nat) : (lenS [.a i]).den ρ = ((ρ.s i).length : Int) := by rw [lenS_den, d1]
theorem le'_den (e : Lin) (n : Nat) : (le' e n).den ρ = n - e.den ρ := by unfold le'; rw [sub_den, const_den]; rfl
theorem chP_ok {M b k : Nat} {l : Str} (hM : M ≤ 320) (hk : k + 2 ≤ 5) (h : Cut ρ b (denS ρ l)) (h1 : 64 * (k + 1) < (denS ρ l).length) (h2 : (denS ρ l).length ≤ 64 * (k + 2)) (h45 : b = 45 → (ρ.s 10).length + (ρ.s 12).length + (denS ρ l).length ≤ M) : Sat ρ (chP M b (k + 2) l) := by
  have hd : denS ρ (chunks b (k + 2)) = denS ρ l := by
    have := chunks_den h (k + 2) 0 (by omega)
    rw [Nat.mul_zero, List.drop_zero, List.take_of_length_le h2] at this
    exact this
  have hp : Nat.pred (k + 2) = k + 1 := rfl
  have hl := cut_len h (i := k + 1) (by omega)
  unfold chP
  simp only [hp]
  refine sat_appL.2 ⟨fun e he => ?_, sat_appL.2 ⟨?_, ?_⟩⟩
  · obtain ⟨i, hi, he⟩ := mem_catL.1 he
    have hi := mem_upto.1 hi
    obtain ⟨j, rfl⟩ : ∃ j, i = b + j := ⟨i - b, by omega⟩
    have := cut_len h (i := j) (by omega)
    have e64 : (ρ.s (b + j)).length = 64 := by omega
    simp only [l64, List.mem_cons, List.not_mem_nil, or_false] at he
    rcases he with rfl | rfl
    · rw [ge_den, len_a, const_den, e64]; decide
    · rw [le'_den, len_a, e64]; decide
  · have q : (lenS [.a (Nat.add b (k + 1))]).den ρ = ((ρ.s (b + (k + 1))).length : Int) := len_a _
    refine sat_cons ?_ (sat_cons ?_ (sat_cons ?_ (sat_cons ?_ sat_nil)))
    · rw [sub_den, lenS_den, lenS_den, hd]; omega
    · rw [sub_den, lenS_den, lenS_den, hd]; omega
    · rw [le'_den, q]; omega
    · rw [ge_den, const_den, q]; omega
  · split
    · rename_i hb
      have hb := Nat.eq_of_beq_eq_true hb
      have := h45 hb
      refine sat_cons ?_ sat_nil
      rw [le'_den, lenS_den, show denS ρ [.a 10, .a 12, .a (Nat.add b (k + 1))] = ρ.s 10 ++ (ρ.s 12 ++ ρ.s (b + (k + 1))) by simp [denS, Pc.den], List.length_append, List.length_append]
      have : ((Nat.sub M (Nat.mul 64 (k + 1)) : Nat) : Int) = M - 64 * (k + 1) := by
        show ((M - 64 * (k + 1) : Nat) : Int) = _
        omega
      omega
    · exact sat_nil
theorem chop_y {f : Nat} {M b : Nat} {l : Str} (hM : M ≤ 320) (h : Cut ρ b (denS ρ l)) (h45 : b = 45 → (ρ.s 10).length + (ρ.s 12).length + (denS ρ l).length ≤ M) {R : O4 → Prop} {G : Str → PC → (O4 → Bool) → Bool} (hG : ∀ l' pc, denS ρ l' = denS ρ l → Sat ρ pc → Yl (G l' pc) R) :
    ∀ (fu k : Nat) {pc : PC}, fu + k ≤ 5 → (k = 0 ∨ 64 * k < (denS ρ l).length) → Sat ρ pc → Yl (fun K => chopD M b l pc (fun l pc => G l pc K) fu (k + 1)) R
  | 0, k, pc, _, _, _ => Yl.no
  | fu + 1, k, pc, hfu, hk, hs => by
    have he : ((Lin.mk (.ofNat (Nat.mul 64 (k + 1))) []).sub (lenS l)).den ρ = 64 * (k + 1) - (denS ρ l).length := by
      rw [sub_den, const_den, lenS_den]; show ((64 * (k + 1) : Nat) : Int) - _ = _; omega
    refine Yl.bind (α := Bool × PC) (β := O4) (F := fun K => dec2 pc ((Lin.mk (.ofNat (Nat.mul 64 (k + 1))) []).sub (lenS l)) fun b pc => K (b, pc)) (G := fun r K => match r.1 with
      | true => match Nat.beq (k + 1) 1 with
        | true => G l r.2 K
        | false => G (chunks b (k + 1)) (addNew (chP M b (k + 1) l) r.2) K
      | false => chopD M b l r.2 (fun l pc => G l pc K) fu (k + 1 + 1)) (dec2_yl hs) fun r hr => ?_
    obtain ⟨q, pc⟩ := r
    obtain ⟨hr1, hr2⟩ := hr
    simp only at hr1 hr2
    cases q with
    | true =>
      have hr1 := of_decide_eq_true hr1.symm
      rw [he] at hr1
      cases k with
      | zero => exact hG l pc rfl hr2
      | succ k =>
        have hk : 64 * (k + 1) < (denS ρ l).length := by omega
        refine hG _ _ ?_ (memP_add (chP_ok hM (by omega) h hk (by omega) h45) hr2)
        have := chunks_den h (k + 2) 0 (by omega)
        rw [Nat.mul_zero, List.drop_zero, List.take_of_length_le (by omega)] at this
        exact this
    | false =>
      have hr1 := of_decide_eq_false hr1.symm
      rw [he] at hr1
      exact chop_y (f := f) hM h h45 hG fu (k + 1) (by omega) (.inr (by omega)) hr2
/-- the rope's pieces -/
structure WeldR (M : Nat) (ρ : Rho) : Prop where
  le : M ≤ 320
  t : (denS ρ N3).length ≤ M
  a : Cut ρ 40 (denS ρ N3)
  b : Cut ρ 45 (ρ.s 13)
theorem len3 (ρ : Rho) : (denS ρ N3).length = (ρ.s 10).length + (ρ.s 13).length + (ρ.s 12).length := by
  rw [show denS ρ N3 = ρ.s 10 ++ (ρ.s 13 ++ ρ.s 12) by simp [N3, denS, Pc.den], List.length_append, List.length_append]; omega
theorem weldD_ok {M : Nat} (h : WeldR M ρ) {f : SumF} (hf : CallY P ρ 120 f) : CallY P ρ 120 (weldD M f) := fun args m nx pc hs => by
  have go : ∀ {d a b : SV} {l l' : Str} {pc : PC}, denS ρ l' = denS ρ l → Sat ρ pc → Yl (fun K => f [d, a, .s l', b] m nx pc fun v m nx pc => K ⟨v, m, nx, pc⟩) (CallR P ρ 120 [d, a, .s l, b] m nx) := fun {d a b l l' pc} e hs =>
    (hf [d, a, .s l', b] m nx pc hs).mono fun r hr => hr.arg fun θ => by simp only [dens, den, e]
  unfold weldD
  split
  · rename_i d a l b
    split
    · rename_i hc
      have hd : denS ρ l = denS ρ N3 := by
        simp only [Bool.or_eq_true, Bool.and_eq_true] at hc
        rcases hc with hc | ⟨hc, hp⟩
        · rw [eqStr_ok hc]
        · have := proves_ok hp hs
          have a11 : ρ.at 45 = ((ρ.s 11).length : Int) := ρ.at_l 11
          simp only [Lin.den, dts, a11] at this
          have e : ρ.s 11 = [] := List.length_eq_zero_iff.1 (by omega)
          rw [eqStr_ok hc]
          simp [N3, denS, Pc.den, e]
      exact chop_y (f := 0) (b := 40) (G := fun l' pc K => f [d, a, .s l', b] m nx pc fun v m nx pc => K ⟨v, m, nx, pc⟩) h.le (by rw [hd]; exact h.a) (fun e => by cases e) (fun l' pc e hs => go e hs) 5 0 (by omega) (.inl rfl) hs
    · split
      · rename_i hc
        have hc := eqStr_ok hc
        subst hc
        have e := d1 (ρ := ρ) 13
        have hl := len3 ρ
        have ht := h.t
        exact chop_y (f := 0) (b := 45) (G := fun l' pc K => f [d, a, .s l', b] m nx pc fun v m nx pc => K ⟨v, m, nx, pc⟩) h.le (by rw [e]; exact h.b) (fun _ => by rw [e]; omega) (fun l' pc e hs => go e hs) 5 0 (by omega) (.inl rfl) hs
      · exact hf _ m nx pc hs
  · exact Yl.no
end
end X
end Go.Proofs.YtdbchpoaoghgpaaGreatDoor


set_option linter.unusedSimpArgs false
set_option linter.unusedVariables false
namespace Go.Proofs.YtdbchpoaoghgpaaGreatDoor
namespace X
open Go.RowKit B
set_option maxRecDepth 1000000

theorem ops_step {P : Program} {ops : Array Oper} {Q : Exit → Act → World → Prop} {i : Nat} {rest : List Nat} {a : Act} {w : World} {o : Oper} {v : Value} (ho : ops[i]? = some o) (hg : o.guard = none) (h : Runs P a o w v) (k : wpOps P ops Q rest (a.put o.dst v) w) : wpOps P ops Q (i :: rest) a w := by
  rw [wpOps_cons]
  unfold wpOp
  rw [ho]
  have hw : Region.wanted o (yielded ops a.tmps) = true := by simp [Region.wanted, hg]
  simp only [hw, if_true]
  exact .inl (wp_val h k)
theorem ops_next {P : Program} {ops : Array Oper} {Q : Exit → Act → World → Prop} {i d : Nat} {rest : List Nat} {a : Act} {w : World} {o : Oper} {v : Value} (ho : ops[i]? = some o) (hd : o.dst = some d) (hg : o.guard = none) (hs : d < a.tmps.size) (h : Runs P a o w v)
    (k : ∀ a', a'.defers = a.defers → a'.tmps.size = a.tmps.size → B.get a' d = v → (∀ k, k ≠ d → B.get a' k = B.get a k) → wpOps P ops Q rest a' w) : wpOps P ops Q (i :: rest) a w :=
  ops_step ho hg h (k _ (defers_put _ _ _) (size_put _ _ _) (by rw [hd, get_put a d d v hs, if_pos rfl]) fun j hj => by rw [hd, get_put a d j v hs, if_neg hj])
def lowF (x n : Int) : Int := x % 18446744073709551616 % n
theorem lowF_ok {x n : Int} (hn : 0 < n) : 0 ≤ lowF x n ∧ lowF x n < n := ⟨Int.emod_nonneg _ (by omega), Int.emod_lt_of_pos _ hn⟩
theorem low_c (x n : Int) (w : World) (hn : 0 < n) (hn2 : n ≤ 9223372036854775807) : Calls Tryz.prog 15 #[.int .i64 x, .int .i64 n] w (fun e w' => e = .returned (.int .i64 (lowF x n)) ∧ w' = w) := by
  have t3 : Tryz.prog.underlying 3 = some (.int .i64) := by kernel_rfl
  have tU64 : Tryz.prog.underlying 394 = some (.int .u64) := by kernel_rfl
  obtain ⟨l1, l2⟩ := lowF_ok (x := x) hn
  have e1 : IntKind.u64.wrap x = x % 18446744073709551616 := by simp [IntKind.wrap, IntKind.signed, IntKind.bits]
  have e2 : IntKind.u64.wrap n = n := by simp [IntKind.wrap, IntKind.signed, IntKind.bits]; omega
  have e3 : (x % 18446744073709551616).tmod n = lowF x n := Int.tmod_eq_emod_of_nonneg (Int.emod_nonneg _ (by omega))
  have e4 : IntKind.i64.wrap (lowF x n) = lowF x n := IntWalk.i64_in _ (by omega)
  have hf : Tryz.prog.funcs[15]? = some Tryz.f15 := by kernel_rfl
  have hb : Tryz.f15.body = some _ := rfl
  refine calls_of_wp hf hb ?_
  generalize ha : ({ tmps := #[Value.int .i64 x, .int .i64 n] ++ Array.replicate (Tryz.f15.ntmps - #[Value.int .i64 x, .int .i64 n].size) undef, defers := [] } : Act) = a
  have hd : a.defers = [] := by rw [← ha]
  have hs : a.tmps.size = 11 := by rw [← ha]; rfl
  have h0 : B.get a 0 = .int .i64 x := by rw [← ha]; rfl
  have h1 : B.get a 1 = .int .i64 n := by rw [← ha]; rfl
  clear ha
  refine wp_seq (wp_region ?_)
  refine ops_next (d := 4) (i := 0) (rest := []) rfl rfl rfl (by omega) (r_assign rfl rfl) fun a1 d1 s1 g1 k1 => ?_
  refine wp_seq (wp_region ?_)
  refine ops_next (d := 5) (i := 0) (rest := [1, 2, 3, 4, 5, 6]) rfl rfl rfl (by omega) (r_move rfl ((B.eval_tmp _ _).trans ((k1 0 (by omega)).trans h0))) fun a2 d2 s2 g2 k2 => ?_
  refine ops_next (d := 6) (i := 1) (rest := [2, 3, 4, 5, 6]) rfl rfl rfl (by omega) (r_conv rfl t3 tU64 ((B.eval_tmp _ _).trans g2)) fun a3 d3 s3 g3 k3 => ?_
  refine ops_next (d := 7) (i := 2) (rest := [3, 4, 5, 6]) rfl rfl rfl (by omega) (r_move rfl ((B.eval_tmp _ _).trans ((k3 1 (by omega)).trans ((k2 1 (by omega)).trans ((k1 1 (by omega)).trans h1))))) fun a4 d4 s4 g4 k4 => ?_
  refine ops_next (d := 8) (i := 3) (rest := [4, 5, 6]) rfl rfl rfl (by omega) (r_conv rfl t3 tU64 ((B.eval_tmp _ _).trans g4)) fun a5 d5 s5 g5 k5 => ?_
  have q6 : B.get a5 6 = .int .u64 (x % 18446744073709551616) := by rw [k5 6 (by omega), k4 6 (by omega), g3, e1]
  have q8 : B.get a5 8 = .int .u64 n := by rw [g5, e2]
  refine ops_next (d := 9) (v := .int .u64 (lowF x n)) (i := 4) (rest := [5, 6]) rfl rfl rfl (by omega) (r_bin (u := .int .u64 (x % 18446744073709551616)) (v := .int .u64 n) rfl ((B.eval_tmp _ _).trans q6) ((B.eval_tmp _ _).trans q8) (guard_ok (by simp) (by simp)) (by
    have : n ≠ 0 := by omega
    simp [binOp, Op.intDiv, this, e3])) fun a6 d6 s6 g6 k6 => ?_
  refine ops_next (d := 10) (i := 5) (rest := [6]) rfl rfl rfl (by omega) (r_conv rfl tU64 t3 ((B.eval_tmp _ _).trans g6)) fun a7 d7 s7 g7 k7 => ?_
  refine ops_next (d := 4) (i := 6) (rest := []) rfl rfl rfl (by omega) (r_assign rfl ((B.eval_tmp _ _).trans g7)) fun a8 d8 s8 g8 k8 => ?_
  rw [e4] at g8
  refine wp_ret ⟨by rw [d8, d7, d6, d5, d4, d3, d2, d1, hd], .int .i64 (lowF x n), ?_, rfl, rfl⟩
  refine run_results (us := [.int .i64 (lowF x n)]) ?_
  show ([ResultVar.tmp 4].mapM (resM a8)).run Tryz.prog w = _
  have g9 : a8.tmps.getD 4 undef = .int .i64 (lowF x n) := g8
  simp [resM, g9]
end X
end Go.Proofs.YtdbchpoaoghgpaaGreatDoor

set_option linter.unusedSimpArgs false
set_option linter.unusedVariables false
namespace Go.Proofs.YtdbchpoaoghgpaaGreatDoor
namespace X
open Go.RowKit B
set_option maxRecDepth 1000000

theorem enterLow (args : Array Value) (w : World) : (callFunc 15 args).run Tryz.prog w = .ok (.enter 15 args) w := enter_run (fn := Tryz.f15) (by kernel_rfl) (by kernel_rfl) rfl args w
section
variable {ρ : Rho} {n g : Nat}
/-! ### Low -/
def LowR (ρ : Rho) : Prop := ∀ k, k < 6 → ρ.v (1000 + 4 * k) = lowF (ρ.v (2000 + 2 * k)) ((denS ρ W3).length + 1) ∧ ρ.v (1001 + 4 * k) = lowF (ρ.v (2001 + 2 * k)) ((denS ρ W3).length + 1)
theorem lvA' (k : Nat) : (lv (eA k)).den ρ = ρ.v (1000 + 4 * k) := by rw [show eA k = 2 * (1000 + 4 * k) by show 2000 + 8 * k = _; omega, lv_v]
theorem lvH' (k : Nat) : (lv (eH k)).den ρ = ρ.v (1001 + 4 * k) := by rw [show eH k = 2 * (1001 + 4 * k) by show 2002 + 8 * k = _; omega, lv_v]
theorem linV_den {v : SV} {e : Lin} (h : linV v = some e) (θ : Th) : den ρ θ v = some (.int .i64 (e.den ρ)) := by
  unfold linV at h
  split at h
  · cases h; rfl
  · cases h; rw [const_den]; rfl
  · cases h
theorem low_y {i : Nat} {v w : SV} {m : Mem} {nx : Nat} {pc : PC} {x k : Int} (hs : Sat ρ pc) (hi : (Lin.mk 0 [(i, 1)]).den ρ = x) (hv : ∀ θ, den ρ θ v = some (.int .i64 k)) (hk : 0 < k) (hk2 : k ≤ 9223372036854775807) (hw : ∀ θ, den ρ θ w = some (.int .i64 (lowF x k))) :
    CallR Tryz.prog ρ 15 [.x .i64 (.mk 0 [(i, 1)]), v] m nx ⟨w, m, nx, pc⟩ := CallR.pur enterLow hs fun θ w' vs hvs => by
  simp only [dens, den, hi, hv, Option.bind_some, Option.map_some, Option.some.injEq] at hvs
  subst hvs
  exact ⟨_, hw θ, calls_mono (low_c x k w' hk hk2) fun e w2 ⟨h1, h2⟩ => ⟨h1, by rw [h2]; exact Ext.refl _ _⟩⟩
theorem lowD_ok (h : LowR ρ) (hl : (denS ρ W3).length ≤ 1000) : CallY Tryz.prog ρ 15 (lowD topW) := fun args m nx pc hs => by
  unfold lowD
  split
  · rename_i i v
    split
    · rename_i hc
      simp only [Bool.and_eq_true, Nat.ble_eq, Nat.beq_eq] at hc
      obtain ⟨⟨⟨c1, c2⟩, c3⟩, c4⟩ := hc
      have c3 : i % 2 = 0 := c3
      split at c4
      · rename_i e he
        have := eqLin_ok c4
        subst this
        have hv : ∀ θ, den ρ θ v = some (.int .i64 (((denS ρ W3).length : Int) + 1)) := fun θ => by
          rw [linV_den he]
          unfold topW
          rw [add_den, const_den, lenS_den]
          congr 2; omega
        split
        · rename_i h4
          have h4 : i % 4 = 0 := Nat.eq_of_beq_eq_true h4
          obtain ⟨k, rfl⟩ : ∃ k, i = 4000 + 4 * k := ⟨(i - 4000) / 4, by omega⟩
          refine Yl.pure (⟨xv (eA (Nat.div (Nat.sub (4000 + 4 * k) 4000) 4)), m, nx, pc⟩ : O4) (low_y hs (x := ρ.v (2000 + 2 * k)) ?_ hv (by omega) (by omega) fun θ => ?_)
          · rw [show 4000 + 4 * k = 2 * (2000 + 2 * k) by omega]; exact lv_v _
          · rw [show Nat.div (Nat.sub (4000 + 4 * k) 4000) 4 = k by show (4000 + 4 * k - 4000) / 4 = k; omega]
            show some (Value.int .i64 ((lv (eA k)).den ρ)) = _
            rw [lvA', (h k (by omega)).1]
        · rename_i h4
          have h4 : i % 4 ≠ 0 := fun e => by rw [show Nat.beq (Nat.mod i 4) 0 = true from by rw [show Nat.mod i 4 = 0 from e]; rfl] at h4; cases h4
          obtain ⟨k, rfl⟩ : ∃ k, i = 4002 + 4 * k := ⟨(i - 4002) / 4, by omega⟩
          refine Yl.pure (⟨xv (eH (Nat.div (Nat.sub (4002 + 4 * k) 4000) 4)), m, nx, pc⟩ : O4) (low_y hs (x := ρ.v (2001 + 2 * k)) ?_ hv (by omega) (by omega) fun θ => ?_)
          · rw [show 4002 + 4 * k = 2 * (2001 + 2 * k) by omega]; exact lv_v _
          · rw [show Nat.div (Nat.sub (4002 + 4 * k) 4000) 4 = k by show (4002 + 4 * k - 4000) / 4 = k; omega]
            show some (Value.int .i64 ((lv (eH k)).den ρ)) = _
            rw [lvH', (h k (by omega)).2]
      · cases c4
    · exact Yl.no
  · exact Yl.no
theorem low0_ok : CallY Tryz.prog ρ 15 low0 := fun args m nx pc hs => by
  unfold low0
  split
  · rename_i e
    refine Yl.pure (⟨okV0, m, nx, pc⟩ : O4) (CallR.pur enterLow hs fun θ w vs hvs => ?_)
    simp only [dens, den, Option.bind_some, Option.map_some, Option.some.injEq] at hvs
    subst hvs
    refine ⟨_, rfl, calls_mono (low_c (e.den ρ) 1 w (by omega) (by omega)) fun e' w2 ⟨h1, h2⟩ => ⟨?_, by rw [h2]; exact Ext.refl _ _⟩⟩
    rw [h1]
    unfold lowF
    rw [Int.emod_one]; rfl
  · exact Yl.no
/-! ### Norm of what is selected -/
theorem normD_ok {xs : List Se} (h : NormR ρ xs) (hn : xs.length = n) (hg : (normE xs).length = g) (hL : ∀ x ∈ xs, tE x ≤ ((ρ.s 6).length : Int)) (h6 : (ρ.s 6).length = (denS ρ W3).length) {f : SumF} (hf : CallY Tryz.prog ρ 46 f) : CallY Tryz.prog ρ 46 (normD n g f) := fun args m nx pc hs => by
  subst hn
  subst hg
  unfold normD
  split
  · have hr : RulesOk ρ rNm := rules_ok trivial ⟨fun _ => by
      have := lv_l (ρ := ρ) 6
      rw [lenS_den, ← h6]; exact this, trivial⟩
    exact cutG_yl hr (fun pc hs _ => h.call hL hs) hs
  · exact hf _ m nx pc hs
/-! ### plain -/
structure PlainR (n g : Nat) (ρ : Rho) : Prop where
  R : RowR g ρ
  G : RhoG g ρ
  n6 : n ≤ 6
  nv : ρ.v 2999 = n
  p : Sat ρ textQ
  l6 : (ρ.s 6).length = (denS ρ W3).length
  z : n = 0 → g = 1 ∧ ρ.v 1384 = (denS ρ W3).length ∧ ρ.v 1385 = (denS ρ W3).length
  s : 1 ≤ n → LowR ρ ∧ ∃ xs, NormR ρ xs ∧ xs.length = n ∧ (normE xs).length = g ∧ ∀ x ∈ xs, tE x ≤ ((ρ.s 6).length : Int)
theorem sortS_ok (ρ : Rho) : SumOk Tryz.prog ρ sortS := withF_ok (smZ_ok ρ) fun args m nx pc hs => sorted_yl hs
theorem fNm_ok (h : RhoG g ρ) : CallY Tryz.prog ρ 46 fNm := callBy_c mixJ (withF_ok (sortS_ok ρ) (tallyD_ok h))
theorem PlainR.len (h : PlainR n g ρ) : 1 ≤ (denS ρ W3).length ∧ (denS ρ W3).length ≤ 60 := by
  have h1 := h.p _ List.mem_cons_self
  have h2 := h.p _ (List.mem_cons_of_mem _ List.mem_cons_self)
  rw [le'_den, lenS_den] at h1
  rw [ge_den, const_den, lenS_den] at h2
  omega
theorem smPlN_ok (h : PlainR n g ρ) : SumOk Tryz.prog ρ (smPlN n g fNm fT [131, 288]) := by
  have hl := h.len
  cases n with
  | zero => exact withF_ok (sortS_ok ρ) (tallyD_ok h.G)
  | succ n =>
    obtain ⟨hL, xs, h1, h2, h3, h4⟩ := h.s (by omega)
    exact withF_ok (withF_ok (withF_ok (sortS_ok ρ) (lowD_ok hL (by omega))) (tallyD_ok h.G)) (normD_ok h1 h2 h3 h4 h.l6 (fNm_ok h.G))
theorem rPl_ok (h : PlainR n g ρ) : RulesOk ρ (rPl n) := by
  cases n with
  | zero =>
    obtain ⟨_, h1, h2⟩ := h.z rfl
    refine rules_ok trivial ⟨fun _ => ?_, fun _ => ?_, trivial⟩
    · rw [lvA, lenS_den]; exact h1
    · rw [lvH, lenS_den]; exact h2
  | succ n => exact rules_ok trivial trivial
theorem pl_all : ∀ n g, n ≤ 6 → 1 ≤ g → g ≤ max n 1 → plK n g = true
  | 0, 1, _, _, _ => plx0y1
  | 1, 1, _, _, _ => plx1y1
  | 2, 1, _, _, _ => plx2y1
  | 2, 2, _, _, _ => plx2y2
  | 3, 1, _, _, _ => plx3y1
  | 3, 2, _, _, _ => plx3y2
  | 3, 3, _, _, _ => plx3y3
  | 4, 1, _, _, _ => plx4y1
  | 4, 2, _, _, _ => plx4y2
  | 4, 3, _, _, _ => plx4y3
  | 4, 4, _, _, _ => plx4y4
  | 5, 1, _, _, _ => plx5y1
  | 5, 2, _, _, _ => plx5y2
  | 5, 3, _, _, _ => plx5y3
  | 5, 4, _, _, _ => plx5y4
  | 5, 5, _, _, _ => plx5y5
  | 6, 1, _, _, _ => plx6y1
  | 6, 2, _, _, _ => plx6y2
  | 6, 3, _, _, _ => plx6y3
  | 6, 4, _, _, _ => plx6y4
  | 6, 5, _, _, _ => plx6y5
  | 6, 6, _, _, _ => plx6y6
  | 0, 0, _, h, _ => absurd h (by omega)
  | 0, g + 2, _, _, h => absurd h (by omega)
  | 1, 0, _, h, _ => absurd h (by omega)
  | 1, g + 2, _, _, h => absurd h (by omega)
  | 2, 0, _, h, _ => absurd h (by omega)
  | 2, g + 3, _, _, h => absurd h (by omega)
  | 3, 0, _, h, _ => absurd h (by omega)
  | 3, g + 4, _, _, h => absurd h (by omega)
  | 4, 0, _, h, _ => absurd h (by omega)
  | 4, g + 5, _, _, h => absurd h (by omega)
  | 5, 0, _, h, _ => absurd h (by omega)
  | 5, g + 6, _, _, h => absurd h (by omega)
  | 6, 0, _, h, _ => absurd h (by omega)
  | 6, g + 7, _, _, h => absurd h (by omega)
  | n + 7, _, h, _, _ => absurd h (by omega)
theorem kPl_ok (h : PlainR n g ρ) : KnownOk Tryz.prog 5 (kPl n g) ρ := by
  refine known_of mixJ (smPlN_ok h) (rPl_ok h) (pl_all n g h.n6 h.R.g1 ?_)
  by_cases hn : n = 0
  · have := (h.z hn).1; omega
  · obtain ⟨_, xs, h1, h2, h3, _⟩ := h.s (by omega)
    have := h1.norm_ok.2.2
    omega
/-! ### .. told of rows -/
theorem cq_eq {n b : Nat} {cs : List SV} (h : ∀ θ, dens ρ θ cs = some (pairs ρ n b)) : EqB ρ ρ (.cq n b) (.cv cs) := fun θ w t => by
  have pj : ∀ j u, (pairs ρ n b)[j]? = some u ↔ j < 2 * (ρ.v n).toNat ∧ u = .int .i64 (ρ.v (b + j)) := fun j u => by
    unfold pairs
    rw [List.getElem?_map]
    by_cases hj : j < 2 * (ρ.v n).toNat
    · rw [List.getElem?_range hj]
      simp [hj, eq_comm]
    · rw [List.getElem?_eq_none (by simp; omega)]
      simp [hj]
  constructor
  · rintro ⟨g, c, f1, f2, f3⟩
    refine ⟨g, c, _, f1, f2, h θ, fun j u hj => ?_⟩
    obtain ⟨q1, rfl⟩ := (pj j u).1 hj
    exact f3 j q1
  · rintro ⟨g, c, vs, f1, f2, f3, f4⟩
    rw [h θ] at f3
    cases f3
    exact ⟨g, c, f1, f2, fun j hj => f4 j _ ((pj j _).2 ⟨hj, rfl⟩)⟩
theorem nsB_eq (h : ρ.v 2999 = n) : EqB ρ ρ nsB (.cv (nsC n)) := cq_eq fun θ => by
  have e := row_dens (ρ := ρ) (n := 2999) (b := 2000) h (a := fun k => lv (4000 + 4 * k)) (h := fun k => lv (4002 + 4 * k)) (fun j hj => ⟨by
    rw [show 4000 + 4 * j = 2 * (2000 + 2 * j) by omega, lv_v], by
    rw [show 4002 + 4 * j = 2 * (2000 + 2 * j + 1) by omega, lv_v]⟩) θ
  exact e
theorem nsV_den (h : ρ.v 2999 = n) (θ : Th) : den ρ θ nsV = den ρ θ (.sv 0 (.mk (.ofNat n) [])) := by
  have e1 : (lv 5998).den ρ = n := by rw [show 5998 = 2 * 2999 from rfl, lv_v, h]
  have e2 : (Lin.mk (.ofNat n) []).den ρ = n := const_den
  simp only [nsV, den, e1, e2]
/-- the arguments: none selected, or some -/
def nsA (n : Nat) : SV := match n with
  | 0 => .sv 0 (.mk 0 [])
  | _ => nsV
def nsM (n : Nat) : ML := match n with
  | 0 => []
  | _ => [(0, nsB)]
theorem shV_eq (h : RowR g ρ) : EqB ρ ρ (.ce 110 [.p 5 0, .p 8 0, rowV 453] true) (.ce 110 [.p 5 0, .p 8 0, .sl 453 0 g (.q 2)] true) := fun θ w t => by
  have e : dens ρ θ [.p 5 0, .p 8 0, rowV 453] = dens ρ θ [.p 5 0, .p 8 0, rowS 453 g] := by simp only [dens, rowV_d h]
  have e : dens ρ θ [.p 5 0, .p 8 0, rowV 453] = dens ρ θ [.p 5 0, .p 8 0, .sl 453 0 g (.q 2)] := e
  simp only [HoldsB, e]
theorem nsA_den (h : ρ.v 2999 = n) (θ : Th) : den ρ θ (nsA n) = den ρ θ (.sv 0 (.mk (.ofNat n) [])) := by
  cases n with
  | zero => rfl
  | succ n => exact nsV_den h θ
theorem nsM_eq (h : ρ.v 2999 = n) : EqL ρ ρ (nsM n) (nsL n) := by
  cases n with
  | zero => exact trivial
  | succ n => exact ⟨rfl, nsB_eq h, trivial⟩
theorem EqL.appL : ∀ {l l' m m' : ML}, EqL ρ ρ l l' → EqL ρ ρ m m' → EqL ρ ρ (appL l m) (appL l' m')
  | [], [], m, m', _, h => h
  | (t, b) :: l, (t', b') :: l', m, m', ⟨h1, h2, h3⟩, h => ⟨h1, h2, EqL.appL h3 h⟩
  | [], _ :: _, _, _, h, _ => h.elim
  | _ :: _, [], _, _, h, _ => h.elim
theorem kPx_ok (h : PlainR n g ρ) : KnownOk Tryz.prog 5 (kPx false (nsA n) (nsM n)) ρ := by
  refine (kPl_ok h).ret h.p (fun θ => ?_) (nsM_eq h.nv) (fun θ => rfl) (EqL.appL ?_ (nsM_eq h.nv)).symm rfl rfl sat_nil ?_ ?_ ?_ ?_
  · show dens ρ θ [.s W3, nsA n] = dens ρ θ [.s W3, .sv 0 (.mk (.ofNat n) [])]
    simp only [dens, nsA_den h.nv]
  · exact ⟨rfl, EqB.refl, rfl, EqB.refl, rfl, EqB.refl, rfl, EqB.refl, rfl, EqB.refl, rfl, shV_eq h.R, rfl, EqB.refl, rfl, EqB.refl, rfl, EqB.refl, rfl, EqB.refl, rfl, rowD_eq h.R, rfl, EqB.refl, trivial⟩
  · cases n <;> rfl
  · cases n <;> rfl
  · cases n <;> rfl
  · cases n <;> rfl
/-! ### The empty text -/
structure EmpR (ρ : Rho) : Prop where
  n : ρ.v 5000 = 1
  a : ρ.v 5010 = 0
  h : ρ.v 5011 = 0
  c : ρ.v 5030 = (ρ.s 7).length
  d : ρ.v 5031 = (ρ.s 7).length
theorem plE_all : ∀ n, n ≤ 6 → plEK n = true
  | 0, _ => plE_0
  | 1, _ => plE_1
  | 2, _ => plE_2
  | 3, _ => plE_3
  | 4, _ => plE_4
  | 5, _ => plE_5
  | 6, _ => plE_6
  | n + 7, h => absurd h (by omega)
theorem kPlE_ok (ρ : Rho) {n : Nat} (h6 : n ≤ 6) : KnownOk Tryz.prog 5 (kPlE n) ρ := known_of mixJ (withF_ok (sortS_ok ρ) low0_ok) rN_ok (plE_all n h6)
theorem one_pairs (h : ρ.v 5000 = 1) (b : Nat) : pairs ρ 5000 b = [.int .i64 (ρ.v b), .int .i64 (ρ.v (b + 1))] := by
  unfold pairs
  rw [h]
  rfl
theorem sel0_eq (h : EmpR ρ) : EqB ρ ρ (rowB 5010) sel0 := row_eq fun θ => by
  rw [one_pairs h.n, h.a, h.h]; rfl
theorem rowV_1 (h : EmpR ρ) (t : Nat) (θ : Th) : den ρ θ (rowV t) = den ρ θ (.sl t 0 1 (.q 2)) := rowV_den (g := 1) h.n θ
theorem kPxE_ok (h : EmpR ρ) (nv : ρ.v 2999 = n) (h6 : n ≤ 6) : KnownOk Tryz.prog 5 (kPx true (nsA n) (nsM n)) ρ := by
  have shE : EqB ρ ρ (.ce 110 [.p 5 0, .p 8 0, rowV 453] true) (.ce 110 [.p 5 0, .p 8 0, .sl 453 0 1 (.q 2)] true) := fun θ w t => by
    have e : dens ρ θ [.p 5 0, .p 8 0, rowV 453] = dens ρ θ [.p 5 0, .p 8 0, .sl 453 0 1 (.q 2)] := by simp only [dens, rowV_1 h]
    simp only [HoldsB, e]
  refine (kPlE_ok ρ h6).ret sat_nil (fun θ => ?_) (nsM_eq nv) (fun θ => rfl) (EqL.appL ?_ (nsM_eq nv)).symm rfl rfl sat_nil ?_ ?_ ?_ ?_
  · show dens ρ θ [.s [], nsA n] = dens ρ θ [.s [], .sv 0 (.mk (.ofNat n) [])]
    simp only [dens, nsA_den nv]
  · exact ⟨rfl, EqB.refl, rfl, EqB.refl, rfl, EqB.refl, rfl, EqB.refl, rfl, EqB.refl, rfl, shE, rfl, EqB.refl, rfl, EqB.refl, rfl, EqB.refl, rfl, EqB.refl, rfl, sel0_eq h, trivial⟩
  · cases n <;> rfl
  · cases n <;> rfl
  · cases n <;> rfl
  · cases n <;> rfl
end
end X
end Go.Proofs.YtdbchpoaoghgpaaGreatDoor

set_option linter.unusedSimpArgs false
set_option linter.unusedVariables false
namespace Go.Proofs.YtdbchpoaoghgpaaGreatDoor
namespace X
open Go.RowKit B
set_option maxRecDepth 1000000

/-- the arguments: the text, what is put in, how many selected, their numbers -/
structure Arg where
  W : List UInt8
  s : List UInt8
  n : Nat
  raw : Nat → Int
structure ArgOk (d : Arg) : Prop where
  W : d.W.length ≤ 60
  s : d.s.length ≤ 40
  n : d.n ≤ 6
  lf : (10 : UInt8) ∉ d.s
section
variable (d : Arg)
def Arg.w : Int := d.W.length
def Arg.xs : List Se := (List.range d.n).map fun k => (lowF (d.raw (2 * k)) (d.w + 1), lowF (d.raw (2 * k + 1)) (d.w + 1))
open Classical in
noncomputable def Arg.none : Bool := decide (d.n = 0 ∨ d.W = [])
noncomputable def Arg.ys : List Se := if d.none = true then [(d.w, d.w)] else normE d.xs
noncomputable def Arg.g : Nat := d.ys.length
noncomputable def Arg.y (j : Nat) : Se := d.ys.getD j z0
noncomputable def Arg.q (i : Nat) : Nat := if i = 0 then 0 else if i ≤ 2 * d.g then (if i % 2 = 1 then (fE (d.y ((i - 1) / 2))).toNat else (tE (d.y ((i - 2) / 2))).toNat) else d.W.length
noncomputable def Arg.seg (i : Nat) : List UInt8 := (d.W.drop (d.q i)).take (d.q (i + 1) - d.q i)
/-- what stands up to the end of the j-th -/
noncomputable def Arg.nw : Nat → List UInt8
  | 0 => []
  | j + 1 => Arg.nw j ++ d.seg (2 * j) ++ d.s
noncomputable def Arg.N : List UInt8 := d.nw d.g ++ d.seg (2 * d.g)
noncomputable def Arg.ln (j : Nat) : Nat := brk (d.W.take (fE (d.y j)).toNat)
noncomputable def Arg.car (j : Nat) : Int := (d.nw (j + 1)).length
noncomputable def Arg.v (j : Nat) : Int :=
  if 5010 ≤ j ∧ j < 5022 then (if j % 2 = 0 then (d.y ((j - 5010) / 2)).1 else (d.y ((j - 5010) / 2)).2)
  else if 5030 ≤ j ∧ j < 5042 then d.car ((j - 5030) / 2)
  else if j = 5000 then d.g
  else if 3550 ≤ j ∧ j < 3556 then d.car (j - 3550)
  else if 3500 ≤ j ∧ j < 3506 then d.ln (j - 3500)
  else if 2000 ≤ j ∧ j < 2000 + 2 * d.n then d.raw (j - 2000)
  else if j = 2999 then d.n
  else if d.none = true ∧ (j = 1384 ∨ j = 1385) then d.w
  else 0
noncomputable def Arg.sB (i : Nat) : List UInt8 :=
  if i = 6 then d.W
  else if i = 7 then d.s
  else if i = 8 then guardF d.s
  else if i = 10 then d.W.take (frF d.W d.N)
  else if i = 11 then midF d.W d.N
  else if i = 12 then d.W.drop (d.W.length - enF d.W d.N)
  else if i = 13 then midG d.W d.N
  else if 20 ≤ i ∧ i < 33 then d.seg (i - 20)
  else if 40 ≤ i ∧ i < 45 then (d.N.drop (64 * (i - 40))).take 64
  else if 45 ≤ i ∧ i < 50 then ((midG d.W d.N).drop (64 * (i - 45))).take 64
  else if 60 ≤ i ∧ i < 66 then indL d.W (d.ln (i - 60))
  else []
def decF : Nat → Nat → List Nat
  | 0, _ => []
  | f + 1, c => if c = 0 then [] else (c % 64 - 1) :: decF f (c / 64)
noncomputable def Arg.tal (c r : Nat) : List UInt8 := match r with
  | 0 => zer (brk ((decF (c + 1) c).flatMap d.sB))
  | 1 => zer (cntF runB ((decF (c + 1) c).flatMap d.sB))
  | _ => zer (cntF uniB ((decF (c + 1) c).flatMap d.sB))
noncomputable def Arg.st (i : Nat) : List UInt8 := if i < 2000 then d.sB i else d.tal ((i - 2000) / 3) ((i - 2000) % 3)
noncomputable def Arg.rho (x : Nat → List UInt8) : Rho := ⟨if d.none = true then d.v else rhoV d.xs d.v, fun i => if i < 6 then x i else d.st i⟩
end
section
variable {d : Arg}
theorem Arg.agree {x : Nat → List UInt8} {ρ' : Rho} (h : Agree (d.rho x) ρ') : ∃ x', ρ' = d.rho x' := by
  refine ⟨ρ'.s, ?_⟩
  obtain ⟨v, s⟩ := ρ'
  have hv := h.v
  have hs := h.s
  simp only at hv hs
  subst hv
  have : s = (d.rho s).s := funext fun i => by
    show s i = if i < 6 then s i else d.st i
    by_cases hi : i < 6
    · rw [if_pos hi]
    · rw [if_neg hi, hs i (by omega)]
      show (if i < 6 then x i else d.st i) = _
      rw [if_neg hi]
  rw [show d.rho s = ⟨(d.rho x).v, (d.rho s).s⟩ from rfl, ← this]
theorem lowF_in (x : Int) (d : Arg) : 0 ≤ lowF x (d.w + 1) ∧ lowF x (d.w + 1) ≤ d.w := by
  have h0 : 0 ≤ d.w := by unfold Arg.w; omega
  have := lowF_ok (x := x) (n := d.w + 1) (by omega)
  omega
theorem Arg.xs_len (d : Arg) : d.xs.length = d.n := by simp [Arg.xs]
theorem Arg.xs_in (d : Arg) : ∀ y ∈ d.xs, InE d.w y := fun y hy => by
  obtain ⟨k, _, rfl⟩ := List.mem_map.1 hy
  have h1 := lowF_in (d.raw (2 * k)) d
  have h2 := lowF_in (d.raw (2 * k + 1)) d
  show 0 ≤ min _ _ ∧ max _ _ ≤ _
  omega
theorem Arg.w0 (d : Arg) : 0 ≤ d.w := by unfold Arg.w; omega
theorem Arg.norm (h : ArgOk d) (hn : d.none ≠ true) : d.n ≠ 0 ∧ d.W ≠ [] := by
  unfold Arg.none at hn
  constructor
  · intro e; exact hn (by simp [e])
  · intro e; exact hn (by simp [e])
theorem Arg.normR (h : ArgOk d) (hn : d.none ≠ true) (s : Nat → List UInt8) : NormR ⟨rhoV d.xs d.v, s⟩ d.xs := by
  have := (Arg.norm h hn).1
  have := h.n
  have := h.W
  refine rhoV_ok (by rw [d.xs_len]; omega) (by rw [d.xs_len]; omega) fun y hy => ?_
  have := d.xs_in y hy
  exact ⟨this.1, by have := this.2; unfold Arg.w at this; omega⟩
/-- what is selected lies in the text, in order, apart -/
theorem Arg.ys_ok (h : ArgOk d) : 1 ≤ d.g ∧ d.g ≤ max d.n 1 ∧ Apt d.ys ∧ ∀ j, j < d.g → InE d.w (d.y j) := by
  unfold Arg.g Arg.y
  by_cases hn : d.none = true
  · have e : d.ys = [(d.w, d.w)] := by unfold Arg.ys; rw [if_pos hn]
    rw [e]
    have := d.w0
    refine ⟨by simp, by simp; omega, fun k hk => by simp at hk, fun j hj => ?_⟩
    have : j = 0 := by simp at hj; omega
    subst this
    show 0 ≤ min _ _ ∧ max _ _ ≤ _
    simp; omega
  · have e : d.ys = normE d.xs := by unfold Arg.ys; rw [if_neg hn]
    have hN := Arg.normR h hn fun _ => []
    obtain ⟨a, _, b, c⟩ := hN.norm_ok
    rw [e]
    refine ⟨b, by rw [d.xs_len] at c; omega, a, fun j hj => ?_⟩
    have := el_bnd d.w0 d.xs_in (dId j)
    rw [el_d] at this
    exact this
theorem Arg.g6 (h : ArgOk d) : d.g ≤ 6 := by have := (Arg.ys_ok h).2.1; have := h.n; omega
theorem Arg.y_in (h : ArgOk d) (j : Nat) : 0 ≤ fE (d.y j) ∧ fE (d.y j) ≤ tE (d.y j) ∧ tE (d.y j) ≤ d.w := by
  have f := fE_le (d.y j)
  by_cases hj : j < d.g
  · have := (Arg.ys_ok h).2.2.2 j hj
    exact ⟨this.1, f, this.2⟩
  · have e : d.y j = z0 := by
      unfold Arg.y
      rw [List.getD_eq_getElem?_getD, List.getElem?_eq_none (by unfold Arg.g at hj; omega)]; rfl
    have := d.w0
    rw [e] at f ⊢
    refine ⟨by decide, f, ?_⟩
    show max (0 : Int) 0 ≤ _
    omega
theorem Arg.y_apt (h : ArgOk d) {j : Nat} (hj : j + 1 < d.g) : tE (d.y j) < fE (d.y (j + 1)) := (Arg.ys_ok h).2.2.1 j hj
/-! ### Where the text is cut -/
theorem Arg.q0 (d : Arg) : d.q 0 = 0 := by unfold Arg.q; rw [if_pos rfl]
theorem Arg.qF (d : Arg) {j : Nat} (hj : j < d.g) : d.q (2 * j + 1) = (fE (d.y j)).toNat := by
  unfold Arg.q
  rw [if_neg (by omega), if_pos (by omega), if_pos (by omega), show (2 * j + 1 - 1) / 2 = j by omega]
theorem Arg.qT (d : Arg) {j : Nat} (hj : j < d.g) : d.q (2 * j + 2) = (tE (d.y j)).toNat := by
  unfold Arg.q
  rw [if_neg (by omega), if_pos (by omega), if_neg (by omega), show (2 * j + 2 - 2) / 2 = j by omega]
theorem Arg.qE (d : Arg) {i : Nat} (hi : 2 * d.g < i) : d.q i = d.W.length := by
  unfold Arg.q
  rw [if_neg (by omega), if_neg (by omega)]
theorem Arg.q_le (h : ArgOk d) (i : Nat) : d.q i ≤ d.W.length := by
  have hw : d.w = d.W.length := rfl
  unfold Arg.q
  split
  · omega
  · split
    · split
      · have := Arg.y_in h ((i - 1) / 2); omega
      · have := Arg.y_in h ((i - 2) / 2); omega
    · omega
theorem Arg.q_up (h : ArgOk d) (i : Nat) : d.q i ≤ d.q (i + 1) := by
  have hw : d.w = d.W.length := rfl
  rcases Nat.eq_zero_or_pos i with rfl | hi
  · rw [d.q0]; omega
  · by_cases hg : 2 * d.g < i + 1
    · rw [d.qE hg]; exact Arg.q_le h i
    · rcases (show i % 2 = 1 ∨ i % 2 = 0 by omega) with h2 | h2
      · obtain ⟨j, rfl⟩ : ∃ j, i = 2 * j + 1 := ⟨i / 2, by omega⟩
        rw [d.qF (by omega), show 2 * j + 1 + 1 = 2 * j + 2 from rfl, d.qT (by omega)]
        have := Arg.y_in h j; omega
      · obtain ⟨j, rfl⟩ : ∃ j, i = 2 * j + 2 := ⟨i / 2 - 1, by omega⟩
        rw [d.qT (by omega), show 2 * j + 2 + 1 = 2 * (j + 1) + 1 by omega, d.qF (by omega)]
        have := Arg.y_apt h (j := j) (by omega); omega
theorem Arg.q_le2 (h : ArgOk d) (i : Nat) : ∀ k, d.q i ≤ d.q (i + k)
  | 0 => Nat.le_refl _
  | k + 1 => Nat.le_trans (Arg.q_le2 h i k) (Arg.q_up h (i + k))
theorem Arg.seg_len (h : ArgOk d) (i : Nat) : (d.seg i).length = d.q (i + 1) - d.q i := by
  unfold Arg.seg
  rw [List.length_take, List.length_drop]
  have := Arg.q_le h (i + 1)
  omega
theorem cut_app {α : Type} {l : List α} {a b c : Nat} (h1 : a ≤ b) (h2 : b ≤ c) : (l.drop a).take (b - a) ++ (l.drop b).take (c - b) = (l.drop a).take (c - a) := by
  rw [show c - a = (b - a) + (c - b) by omega, List.take_add, List.drop_drop, show a + (b - a) = b by omega]
/-! ### What stands for the unknowns -/
variable {x : Nat → List UInt8}
theorem Arg.sd (d : Arg) (x : Nat → List UInt8) {i : Nat} (h1 : 6 ≤ i) (h2 : i < 2000) : (d.rho x).s i = d.sB i := by
  show (if i < 6 then x i else d.st i) = _
  rw [if_neg (by omega)]
  unfold Arg.st
  rw [if_pos h2]
theorem Arg.s_seg (d : Arg) (x : Nat → List UInt8) {i : Nat} (h : i < 13) : (d.rho x).s (20 + i) = d.seg i := by
  rw [d.sd x (by omega) (by omega)]
  unfold Arg.sB
  rw [if_neg (by omega), if_neg (by omega), if_neg (by omega), if_neg (by omega), if_neg (by omega), if_neg (by omega), if_neg (by omega), if_pos (by omega), show 20 + i - 20 = i by omega]
theorem Arg.seg_den (h : ArgOk d) : ∀ (k i : Nat), i + k ≤ 13 → denS (d.rho x) (mapL Pc.a (upto (20 + i) k)) = (d.W.drop (d.q i)).take (d.q (i + k) - d.q i)
  | 0, i, _ => by simp [upto, mapL, denS]
  | k + 1, i, hk => by
    have ih := Arg.seg_den h k (i + 1) (by omega)
    show denS _ (.a (20 + i) :: mapL Pc.a (upto (20 + (i + 1)) k)) = _
    rw [denS_cons, ih]
    show (d.rho x).s (20 + i) ++ _ = _
    rw [d.s_seg x (by omega)]
    unfold Arg.seg
    rw [cut_app (Arg.q_up h i) (Arg.q_le2 h (i + 1) k), show i + 1 + k = i + (k + 1) by omega]
theorem segs_tl : ∀ k j, catL (fun j => [Pc.a (Nat.add 21 (Nat.mul 2 j)), Pc.a (Nat.add 22 (Nat.mul 2 j))]) (upto j k) = mapL Pc.a (upto (21 + 2 * j) (2 * k))
  | 0, j => rfl
  | k + 1, j => by
    have ih := segs_tl k (j + 1)
    show Pc.a (21 + 2 * j) :: Pc.a (22 + 2 * j) :: catL _ (upto (j + 1) k) = _
    rw [ih, show 2 * (k + 1) = 2 * k + 1 + 1 by omega]
    show _ = Pc.a (21 + 2 * j) :: Pc.a (21 + 2 * j + 1) :: mapL Pc.a (upto (21 + 2 * j + 1 + 1) (2 * k))
    rw [show 21 + 2 * j + 1 = 22 + 2 * j by omega, show 22 + 2 * j + 1 = 21 + 2 * (j + 1) by omega]
theorem segs_eq (g : Nat) : segs g = mapL Pc.a (upto 20 (2 * g + 1)) := by
  unfold segs
  rw [segs_tl]; rfl
theorem Arg.segs_den (h : ArgOk d) : denS (d.rho x) (segs d.g) = d.W := by
  have g6 := Arg.g6 h
  have := Arg.seg_den h (x := x) (2 * d.g + 1) 0 (by omega)
  rw [segs_eq, show upto 20 (2 * d.g + 1) = upto (20 + 0) (2 * d.g + 1) from rfl, this, d.q0, List.drop_zero, d.qE (by omega), List.take_of_length_le (by omega)]
theorem Arg.segF_den (h : ArgOk d) {j : Nat} (hj : j < d.g) : (segF j).den (d.rho x) = fE (d.y j) := by
  have g6 := Arg.g6 h
  have hq := Arg.q_le h (2 * j + 1)
  have e := Arg.seg_den h (x := x) (2 * j + 1) 0 (by omega)
  have hy := Arg.y_in h j
  unfold segF
  rw [lenS_den, show upto 20 (Nat.succ (Nat.mul 2 j)) = upto (20 + 0) (2 * j + 1) from rfl, e, d.q0, List.drop_zero, List.length_take, show 0 + (2 * j + 1) = 2 * j + 1 by omega]
  rw [d.qF hj] at hq ⊢
  omega
theorem Arg.segT_den (h : ArgOk d) {j : Nat} (hj : j < d.g) : (segT j).den (d.rho x) = tE (d.y j) := by
  have g6 := Arg.g6 h
  have hq := Arg.q_le h (2 * j + 2)
  have e := Arg.seg_den h (x := x) (2 * j + 2) 0 (by omega)
  have hy := Arg.y_in h j
  unfold segT
  rw [lenS_den, show upto 20 (Nat.succ (Nat.succ (Nat.mul 2 j))) = upto (20 + 0) (2 * j + 2) from rfl, e, d.q0, List.drop_zero, List.length_take, show 0 + (2 * j + 2) = 2 * j + 2 by omega]
  rw [d.qT hj] at hq ⊢
  omega
/-! ### The new text -/
theorem Arg.new_den (h : ArgOk d) {S : Str} (hS : denS (d.rho x) S = d.s) : ∀ (k i : Nat), i + k ≤ 6 → d.nw i ++ denS (d.rho x) (catL (fun i => appL [.a (Nat.add 20 (Nat.mul 2 i))] S) (upto i k)) = d.nw (i + k)
  | 0, i, _ => by simp [upto, catL, denS]
  | k + 1, i, hk => by
    have ih := Arg.new_den h hS k (i + 1) (by omega)
    have ea : ∀ a b : Str, denS (d.rho x) (appL a b) = denS (d.rho x) a ++ denS (d.rho x) b := fun a b => by
      induction a with
      | nil => rfl
      | cons p l ihl => rw [appL, denS_cons, denS_cons, ihl, List.append_assoc]
    show d.nw i ++ denS _ (appL (appL [.a (20 + 2 * i)] S) (catL _ (upto (i + 1) k))) = _
    rw [ea, ea, hS, d1, d.s_seg x (by omega), show i + (k + 1) = i + 1 + k by omega, ← ih]
    show _ = d.nw i ++ d.seg (2 * i) ++ d.s ++ _
    simp only [List.append_assoc]
theorem Arg.newS_den (h : ArgOk d) {S : Str} (hS : denS (d.rho x) S = d.s) {j : Nat} (hj : j < 6) : denS (d.rho x) (newS S j) = d.nw (j + 1) := by
  have := Arg.new_den h hS (j + 1) 0 (by omega)
  rw [show d.nw 0 = [] from rfl, List.nil_append, Nat.zero_add] at this
  exact this
theorem denS_appL {ρ : Rho} : ∀ {a b : Str}, denS ρ (appL a b) = denS ρ a ++ denS ρ b
  | [], b => rfl
  | p :: l, b => by rw [appL, denS_cons, denS_cons, denS_appL, List.append_assoc]
theorem Arg.newT_den (h : ArgOk d) {S : Str} (hS : denS (d.rho x) S = d.s) : denS (d.rho x) (newT d.g S) = d.N := by
  have g6 := Arg.g6 h
  have g1 := (Arg.ys_ok h).1
  unfold newT Arg.N
  rw [denS_appL, Arg.newS_den h hS (j := Nat.pred d.g) (by rw [Nat.pred_eq_sub_one]; omega), show Nat.pred d.g + 1 = d.g by rw [Nat.pred_eq_sub_one]; omega]
  rw [show [Pc.a (Nat.add 20 (Nat.mul 2 d.g))] = [Pc.a (20 + 2 * d.g)] from rfl, d1, d.s_seg x (by omega)]
theorem Arg.nw_up (d : Arg) (j : Nat) : (d.nw (j + 1)).length = (d.nw j).length + (d.seg (2 * j)).length + d.s.length := by
  show (d.nw j ++ d.seg (2 * j) ++ d.s).length = _
  rw [List.length_append, List.length_append]
theorem Arg.nw_le (d : Arg) : ∀ {i j : Nat}, i ≤ j → (d.nw i).length ≤ (d.nw j).length
  | i, 0, h => by have : i = 0 := by omega
                  subst this; exact Nat.le_refl _
  | i, j + 1, h => by
    rcases Nat.eq_or_lt_of_le h with rfl | h
    · exact Nat.le_refl _
    · have := Arg.nw_le d (i := i) (j := j) (by omega)
      have := d.nw_up j
      omega
theorem Arg.nw_q (h : ArgOk d) : ∀ j, (d.nw j).length ≤ d.q (2 * j) + j * d.s.length
  | 0 => by show 0 ≤ _; omega
  | j + 1 => by
    have ih := Arg.nw_q h j
    have e := d.nw_up j
    have l := Arg.seg_len h (2 * j)
    have u1 := Arg.q_up h (2 * j)
    have u2 := Arg.q_up h (2 * j + 1)
    rw [show 2 * (j + 1) = 2 * j + 1 + 1 by omega, Nat.add_mul, Nat.one_mul]
    omega
theorem Arg.N_len (h : ArgOk d) : d.N.length ≤ d.W.length + d.g * d.s.length ∧ d.N.length = (d.nw d.g).length + (d.seg (2 * d.g)).length := by
  have a := Arg.nw_q h d.g
  have l := Arg.seg_len h (2 * d.g)
  have u := Arg.q_up h (2 * d.g)
  have e := d.qE (i := 2 * d.g + 1) (by omega)
  have : d.N.length = (d.nw d.g).length + (d.seg (2 * d.g)).length := by unfold Arg.N; rw [List.length_append]
  exact ⟨by omega, this⟩
theorem Arg.N_300 (h : ArgOk d) : d.N.length ≤ 300 ∧ (d.n = 0 → d.N.length ≤ 100) := by
  have a := (Arg.N_len h).1
  have g6 := Arg.g6 h
  have gm := (Arg.ys_ok h).2.1
  have hs := h.s
  have hW := h.W
  have : d.g * d.s.length ≤ d.g * 40 := Nat.mul_le_mul_left _ hs
  exact ⟨by omega, fun e => by rw [e] at gm; omega⟩
theorem Arg.s10 (d : Arg) (x : Nat → List UInt8) : (d.rho x).s 10 = d.W.take (frF d.W d.N) := d.sd x (by omega) (by omega)
theorem Arg.s11 (d : Arg) (x : Nat → List UInt8) : (d.rho x).s 11 = midF d.W d.N := d.sd x (by omega) (by omega)
theorem Arg.s12 (d : Arg) (x : Nat → List UInt8) : (d.rho x).s 12 = d.W.drop (d.W.length - enF d.W d.N) := d.sd x (by omega) (by omega)
theorem Arg.s13 (d : Arg) (x : Nat → List UInt8) : (d.rho x).s 13 = midG d.W d.N := d.sd x (by omega) (by omega)
theorem Arg.s6 (d : Arg) (x : Nat → List UInt8) : (d.rho x).s 6 = d.W := d.sd x (by omega) (by omega)
theorem Arg.s7 (d : Arg) (x : Nat → List UInt8) : (d.rho x).s 7 = d.s := d.sd x (by omega) (by omega)
theorem Arg.s8 (d : Arg) (x : Nat → List UInt8) : (d.rho x).s 8 = guardF d.s := d.sd x (by omega) (by omega)
theorem Arg.W3_den (d : Arg) (x : Nat → List UInt8) : denS (d.rho x) W3 = d.W := by
  rw [show denS (d.rho x) W3 = (d.rho x).s 10 ++ (d.rho x).s 11 ++ (d.rho x).s 12 by simp [W3, denS, Pc.den], d.s10, d.s11, d.s12]
  exact mid_was
theorem Arg.N3_den (d : Arg) (x : Nat → List UInt8) : denS (d.rho x) N3 = d.N := by
  rw [show denS (d.rho x) N3 = (d.rho x).s 10 ++ (d.rho x).s 13 ++ (d.rho x).s 12 by simp [N3, denS, Pc.den], d.s10, d.s13, d.s12]
  exact mid_now
theorem Arg.cutA (d : Arg) (x : Nat → List UInt8) : Cut (d.rho x) 40 d.N := fun i hi => by
  rw [d.sd x (by omega) (by omega)]
  unfold Arg.sB
  rw [if_neg (by omega), if_neg (by omega), if_neg (by omega), if_neg (by omega), if_neg (by omega), if_neg (by omega), if_neg (by omega), if_neg (by omega), if_pos (by omega), show 40 + i - 40 = i by omega]
theorem Arg.cutB (d : Arg) (x : Nat → List UInt8) : Cut (d.rho x) 45 (midG d.W d.N) := fun i hi => by
  rw [d.sd x (by omega) (by omega)]
  unfold Arg.sB
  rw [if_neg (by omega), if_neg (by omega), if_neg (by omega), if_neg (by omega), if_neg (by omega), if_neg (by omega), if_neg (by omega), if_neg (by omega), if_neg (by omega), if_pos (by omega), show 45 + i - 45 = i by omega]
/-! ### Tallies -/
theorem enc_dec : ∀ {l : Str} {c : Nat} {f : Nat}, encS l = some c → c < f → denS (d.rho x) l = (decF f c).flatMap d.sB
  | [], c, f, h, hf => by
    cases h
    obtain ⟨f, rfl⟩ : ∃ k, f = k + 1 := ⟨f - 1, by omega⟩
    simp [decF, denS]
  | .c _ :: _, c, f, h, _ => by cases h
  | .a i :: l, c, f, h, hf => by
    unfold encS at h
    split at h
    · rename_i hi
      simp only [Bool.and_eq_true, Nat.ble_eq, Nat.blt_eq] at hi
      split at h
      · rename_i c' hc
        cases h
        obtain ⟨f, rfl⟩ : ∃ k, f = k + 1 := ⟨f - 1, by omega⟩
        have hf : i + 1 + 64 * c' < f + 1 := hf
        have ih := enc_dec (f := f) hc (by omega)
        rw [denS_cons, ih]
        show (d.rho x).s i ++ _ = (decF (f + 1) (i + 1 + 64 * c')).flatMap d.sB
        rw [decF, if_neg (by omega), show (i + 1 + 64 * c') % 64 - 1 = i by omega, show (i + 1 + 64 * c') / 64 = c' by omega, List.flatMap_cons, d.sd x hi.1 (by omega)]
      · cases h
    · cases h
theorem Arg.tal_ok (d : Arg) (x : Nat → List UInt8) : ∀ l c, encS l = some c → (d.rho x).s (2000 + 3 * c) = zer (brk (denS (d.rho x) l)) ∧ (d.rho x).s (2001 + 3 * c) = zer (cntF runB (denS (d.rho x) l)) ∧ (d.rho x).s (2002 + 3 * c) = zer (cntF uniB (denS (d.rho x) l)) := fun l c hc => by
  have e := enc_dec (d := d) (x := x) (f := c + 1) hc (by omega)
  have key : ∀ r, r < 3 → (d.rho x).s (2000 + r + 3 * c) = d.tal c r := fun r hr => by
    show (if 2000 + r + 3 * c < 6 then x _ else d.st (2000 + r + 3 * c)) = _
    rw [if_neg (by omega)]
    unfold Arg.st
    rw [if_neg (by omega), show (2000 + r + 3 * c - 2000) / 3 = c by omega, show (2000 + r + 3 * c - 2000) % 3 = r by omega]
  rw [e]
  exact ⟨key 0 (by omega), key 1 (by omega), key 2 (by omega)⟩
end
end X
end Go.Proofs.YtdbchpoaoghgpaaGreatDoor

set_option linter.unusedSimpArgs false
set_option linter.unusedVariables false
namespace Go.Proofs.YtdbchpoaoghgpaaGreatDoor
namespace X
open Go.RowKit B
set_option maxRecDepth 1000000

section
variable {d : Arg} {x : Nat → List UInt8}
/-! ### Numbers -/
theorem Arg.rv (d : Arg) (x : Nat → List UInt8) {j : Nat} (h : j < 1000 ∨ (1440 ≤ j ∧ j < 3001) ∨ 3007 ≤ j) : (d.rho x).v j = d.v j := by
  show (if d.none = true then d.v else rhoV d.xs d.v) j = _
  split
  · rfl
  · unfold rhoV
    rw [if_neg (by omega), if_neg (by omega)]
theorem Arg.v_sel (d : Arg) (x : Nat → List UInt8) {j : Nat} (h : j < 6) : (d.rho x).v (5010 + 2 * j) = (d.y j).1 ∧ (d.rho x).v (5011 + 2 * j) = (d.y j).2 := by
  constructor
  · rw [d.rv x (by omega)]
    unfold Arg.v
    rw [if_pos (by omega), if_pos (by omega), show (5010 + 2 * j - 5010) / 2 = j by omega]
  · rw [d.rv x (by omega)]
    unfold Arg.v
    rw [if_pos (by omega), if_neg (by omega), show (5011 + 2 * j - 5010) / 2 = j by omega]
theorem Arg.v_car2 (d : Arg) (x : Nat → List UInt8) {j : Nat} (h : j < 6) : (d.rho x).v (5030 + 2 * j) = d.car j ∧ (d.rho x).v (5031 + 2 * j) = d.car j := by
  constructor
  · rw [d.rv x (by omega)]
    unfold Arg.v
    rw [if_neg (by omega), if_pos (by omega), show (5030 + 2 * j - 5030) / 2 = j by omega]
  · rw [d.rv x (by omega)]
    unfold Arg.v
    rw [if_neg (by omega), if_pos (by omega), show (5031 + 2 * j - 5030) / 2 = j by omega]
theorem Arg.v_g (d : Arg) (x : Nat → List UInt8) : (d.rho x).v 5000 = d.g := by
  rw [d.rv x (by omega)]
  unfold Arg.v
  rw [if_neg (by omega), if_neg (by omega), if_pos rfl]
theorem Arg.v_car (d : Arg) (x : Nat → List UInt8) {j : Nat} (h : j < 6) : (d.rho x).v (3550 + j) = d.car j := by
  rw [d.rv x (by omega)]
  unfold Arg.v
  rw [if_neg (by omega), if_neg (by omega), if_neg (by omega), if_pos (by omega), show 3550 + j - 3550 = j by omega]
theorem Arg.v_ln (d : Arg) (x : Nat → List UInt8) {j : Nat} (h : j < 6) : (d.rho x).v (3500 + j) = (d.ln j : Nat) := by
  rw [d.rv x (by omega)]
  unfold Arg.v
  rw [if_neg (by omega), if_neg (by omega), if_neg (by omega), if_neg (by omega), if_pos (by omega), show 3500 + j - 3500 = j by omega]
theorem Arg.v_raw (h : ArgOk d) (x : Nat → List UInt8) {j : Nat} (hj : j < 12) : (d.rho x).v (2000 + j) = if j < 2 * d.n then d.raw j else 0 := by
  have := h.n
  rw [d.rv x (by omega)]
  unfold Arg.v
  rw [if_neg (by omega), if_neg (by omega), if_neg (by omega), if_neg (by omega), if_neg (by omega)]
  by_cases hn : j < 2 * d.n
  · rw [if_pos (by omega), if_pos hn, show 2000 + j - 2000 = j by omega]
  · rw [if_neg (by omega), if_neg hn, if_neg (by omega), if_neg (by omega)]
theorem Arg.v_n (h : ArgOk d) (x : Nat → List UInt8) : (d.rho x).v 2999 = d.n := by
  have := h.n
  rw [d.rv x (by omega)]
  unfold Arg.v
  rw [if_neg (by omega), if_neg (by omega), if_neg (by omega), if_neg (by omega), if_neg (by omega), if_neg (by omega), if_pos rfl]
theorem Arg.v_0 (h : ArgOk d) (x : Nat → List UInt8) : (d.rho x).v 500 = 0 := by
  rw [d.rv x (by omega)]
  unfold Arg.v
  rw [if_neg (by omega), if_neg (by omega), if_neg (by omega), if_neg (by omega), if_neg (by omega), if_neg (by omega), if_neg (by omega), if_neg (by omega)]
/-- elements 96, ..: what is selected -/
theorem Arg.v_el (h : ArgOk d) (x : Nat → List UInt8) {j : Nat} (hj : j < d.g) : (d.rho x).v (1000 + 4 * (96 + j)) = (d.y j).1 ∧ (d.rho x).v (1001 + 4 * (96 + j)) = (d.y j).2 := by
  have g6 := Arg.g6 h
  by_cases hn : d.none = true
  · have e : d.ys = [(d.w, d.w)] := by unfold Arg.ys; rw [if_pos hn]
    have hj0 : j = 0 := by
      have : d.g = 1 := by unfold Arg.g; rw [e]; rfl
      omega
    subst hj0
    have ey : d.y 0 = (d.w, d.w) := by unfold Arg.y; rw [e]; rfl
    have ev : ∀ i, i = 1384 ∨ i = 1385 → (d.rho x).v i = d.w := fun i hi => by
      have := h.n
      show (if d.none = true then d.v else rhoV d.xs d.v) i = _
      rw [if_pos hn]
      unfold Arg.v
      rw [if_neg (by omega), if_neg (by omega), if_neg (by omega), if_neg (by omega), if_neg (by omega), if_neg (by omega), if_neg (by omega), if_pos ⟨hn, hi⟩]
    rw [ey]
    exact ⟨ev _ (.inl rfl), ev _ (.inr rfl)⟩
  · have e : d.ys = normE d.xs := by unfold Arg.ys; rw [if_neg hn]
    have hN := Arg.normR h hn (d.rho x).s
    have er : d.rho x = ⟨rhoV d.xs d.v, (d.rho x).s⟩ := by
      show Rho.mk (if d.none = true then d.v else rhoV d.xs d.v) _ = _
      rw [if_neg hn]; rfl
    have ey : elF d.xs (96 + j) = d.y j := by
      have := el_d (xs := d.xs) (j := j)
      unfold Arg.y
      rw [e]; exact this
    rw [er]
    exact ⟨(hN.a (96 + j) (by omega)).trans (by rw [ey]), (hN.h (96 + j) (by omega)).trans (by rw [ey])⟩
theorem Arg.rowR (h : ArgOk d) (x : Nat → List UInt8) : RowR d.g (d.rho x) := by
  have g6 := Arg.g6 h
  refine ⟨d.v_g x, (Arg.ys_ok h).1, g6, fun j hj => ?_, fun j hj => ?_⟩
  · rw [(d.v_sel x (by omega)).1, (d.v_sel x (by omega)).2, (Arg.v_el h x hj).1, (Arg.v_el h x hj).2]; exact ⟨rfl, rfl⟩
  · rw [(d.v_car2 x (by omega)).1, (d.v_car2 x (by omega)).2, d.v_car x (by omega)]; exact ⟨rfl, rfl⟩
theorem Arg.rhoG (h : ArgOk d) (x : Nat → List UInt8) : RhoG d.g (d.rho x) := by
  have g6 := Arg.g6 h
  refine ⟨g6, fun j hj => ?_, d.tal_ok x, fun j hj => ?_, fun j hj => ?_⟩
  · rw [Arg.segF_den h hj, Arg.segT_den h hj, (Arg.v_el h x hj).1, (Arg.v_el h x hj).2]; exact ⟨rfl, rfl⟩
  · rw [Arg.segs_den h, Arg.segF_den h hj, d.v_ln x (by omega)]; rfl
  · rw [Arg.segs_den h, d.v_ln x hj, Int.toNat_natCast, d.sd x (by omega) (by omega)]
    unfold Arg.sB
    rw [if_neg (by omega), if_neg (by omega), if_neg (by omega), if_neg (by omega), if_neg (by omega), if_neg (by omega), if_neg (by omega), if_neg (by omega), if_neg (by omega), if_neg (by omega), if_pos (by omega), show 60 + j - 60 = j by omega]
/-! ### Facts -/
theorem Arg.textQ_ok (h : ArgOk d) (hW : d.W ≠ []) (x : Nat → List UInt8) : Sat (d.rho x) textQ := by
  have h1 := h.W
  have h2 : 1 ≤ d.W.length := List.length_pos_iff.2 hW
  refine sat_cons ?_ (sat_cons ?_ sat_nil)
  · rw [le'_den, lenS_den, d.W3_den]; omega
  · rw [ge_den, const_den, lenS_den, d.W3_den]; omega
theorem Arg.lowR (h : ArgOk d) (hn : d.none ≠ true) (x : Nat → List UInt8) : LowR (d.rho x) := fun k hk => by
  have hN := Arg.normR h hn (d.rho x).s
  have er : d.rho x = ⟨rhoV d.xs d.v, (d.rho x).s⟩ := by
    show Rho.mk (if d.none = true then d.v else rhoV d.xs d.v) _ = _
    rw [if_neg hn]; rfl
  have ea : (d.rho x).v (1000 + 4 * k) = (elF d.xs k).1 := by rw [er]; exact hN.a k (by omega)
  have eh : (d.rho x).v (1001 + 4 * k) = (elF d.xs k).2 := by rw [er]; exact hN.h k (by omega)
  have hw : ((denS (d.rho x) W3).length : Int) = d.w := by rw [d.W3_den]; rfl
  rw [ea, eh, hw, el_in (by omega), Arg.v_raw h x (by omega), show 2001 + 2 * k = 2000 + (2 * k + 1) by omega, Arg.v_raw h x (by omega)]
  by_cases hk2 : k < d.n
  · rw [if_pos (by omega), if_pos (by omega)]
    have : d.xs.getD k z0 = (lowF (d.raw (2 * k)) (d.w + 1), lowF (d.raw (2 * k + 1)) (d.w + 1)) := by
      unfold Arg.xs
      rw [List.getD_eq_getElem?_getD, List.getElem?_map, List.getElem?_range hk2]; rfl
    rw [this]; exact ⟨rfl, rfl⟩
  · rw [if_neg (by omega), if_neg (by omega)]
    have : d.xs.getD k z0 = z0 := by
      rw [List.getD_eq_getElem?_getD, List.getElem?_eq_none (by rw [d.xs_len]; omega)]; rfl
    have e0 : lowF 0 (d.w + 1) = 0 := by unfold lowF; simp
    rw [this, e0]; exact ⟨rfl, rfl⟩
theorem Arg.plainR (h : ArgOk d) (hW : d.W ≠ []) (x : Nat → List UInt8) : PlainR d.n d.g (d.rho x) := by
  refine ⟨Arg.rowR h x, Arg.rhoG h x, h.n, Arg.v_n h x, Arg.textQ_ok h hW x, by rw [d.s6, d.W3_den], fun hn => ?_, fun hn => ?_⟩
  · have hnn : d.none = true := by unfold Arg.none; simp [hn]
    have e : d.ys = [(d.w, d.w)] := by unfold Arg.ys; rw [if_pos hnn]
    have eg : d.g = 1 := by unfold Arg.g; rw [e]; rfl
    have ey : d.y 0 = (d.w, d.w) := by unfold Arg.y; rw [e]; rfl
    have hv := Arg.v_el h x (j := 0) (by omega)
    rw [ey] at hv
    rw [d.W3_den]
    exact ⟨eg, hv.1, hv.2⟩
  · have hnn : d.none ≠ true := by
      intro q
      unfold Arg.none at q
      rcases of_decide_eq_true q with e | e
      · omega
      · exact hW e
    have e : d.ys = normE d.xs := by unfold Arg.ys; rw [if_neg hnn]
    have hN := Arg.normR h hnn (d.rho x).s
    have er : d.rho x = ⟨rhoV d.xs d.v, (d.rho x).s⟩ := by
      show Rho.mk (if d.none = true then d.v else rhoV d.xs d.v) _ = _
      rw [if_neg hnn]; rfl
    refine ⟨Arg.lowR h hnn x, d.xs, by rw [er]; exact hN, d.xs_len, by unfold Arg.g; rw [e], fun y hy => ?_⟩
    rw [d.s6]
    exact (d.xs_in y hy).2
theorem Arg.turnR (h : ArgOk d) (x : Nat → List UInt8) : TurnR (d.rho x) := by
  have h1 := h.W
  have h2 := (Arg.N_300 h).1
  refine ⟨by rw [d.W3_den]; omega, by rw [d.N3_den]; omega, ?_, ?_, ?_⟩
  · rw [d.W3_den, d.N3_den]; exact d.s10 x
  · rw [d.W3_den, d.N3_den]; exact d.s11 x
  · rw [d.W3_den, d.N3_den]; exact d.s13 x
theorem Arg.weldR (h : ArgOk d) (x : Nat → List UInt8) : WeldR 300 (d.rho x) := by
  have h2 := (Arg.N_300 h).1
  refine ⟨by omega, by rw [d.N3_den]; exact h2, by rw [d.N3_den]; exact d.cutA x, by rw [d.s13]; exact d.cutB x⟩
theorem Arg.car_le (h : ArgOk d) {j : Nat} (hj : j < d.g) : 0 ≤ d.car j ∧ d.car j ≤ d.N.length := by
  have a := (Arg.N_len h).2
  have b := d.nw_le (i := j + 1) (j := d.g) (by omega)
  unfold Arg.car
  omega
theorem Arg.car_up (h : ArgOk d) {j : Nat} (hj : j + 1 < d.g) : d.car j < d.car (j + 1) := by
  have e := d.nw_up (j + 1)
  have l := Arg.seg_len h (2 * (j + 1))
  have q1 := d.qT (j := j) (by omega)
  have q2 := d.qF (j := j + 1) hj
  have a := Arg.y_apt h hj
  have y0 := Arg.y_in h j
  have y1 := Arg.y_in h (j + 1)
  rw [show 2 * (j + 1) = 2 * j + 2 by omega] at l e
  rw [show 2 * (j + 1) + 1 = 2 * j + 2 + 1 by omega] at q2
  unfold Arg.car
  omega
theorem Arg.seg_pos (h : ArgOk d) {j : Nat} (h1 : 1 ≤ j) (hj : j < d.g) : 1 ≤ (d.seg (2 * j)).length := by
  obtain ⟨i, rfl⟩ : ∃ i, j = i + 1 := ⟨j - 1, by omega⟩
  have l := Arg.seg_len h (2 * (i + 1))
  have q1 := d.qT (j := i) (by omega)
  have q2 := d.qF (j := i + 1) hj
  have a := Arg.y_apt h hj
  have y0 := Arg.y_in h i
  have y1 := Arg.y_in h (i + 1)
  rw [show 2 * (i + 1) = 2 * i + 2 by omega] at l ⊢
  rw [show 2 * (i + 1) + 1 = 2 * i + 2 + 1 by omega] at q2
  omega
theorem lvCar' (d : Arg) (x : Nat → List UInt8) {j : Nat} (h : j < 6) : (lv (carJ j)).den (d.rho x) = d.car j := by rw [lvCar, d.v_car x h]
theorem Arg.carQ_ok (h : ArgOk d) (x : Nat → List UInt8) {e : Bool} (he : denS (d.rho x) (newX e) = d.N) : Sat (d.rho x) (carQ e d.g) := by
  have g6 := Arg.g6 h
  refine sat_appL.2 ⟨fun f hf => ?_, fun f hf => ?_⟩
  · obtain ⟨j, hj, hf⟩ := mem_catL.1 hf
    have hj := (mem_upto.1 hj).2
    have c := Arg.car_le h (j := j) (by omega)
    simp only [List.mem_cons, List.not_mem_nil, or_false] at hf
    rcases hf with rfl | rfl
    · rw [lvCar' d x (by omega)]; exact c.1
    · rw [ge_den, lenS_den, he, lvCar' d x (by omega)]; omega
  · obtain ⟨j, hj, rfl⟩ := mem_mapL.1 hf
    have hj := (mem_upto.1 hj).2
    rw [Nat.pred_eq_sub_one] at hj
    have c := Arg.car_up h (j := j) (by omega)
    rw [gt_den, lvCar' d x (j := Nat.succ j) (by show j + 1 < 6; omega), lvCar' d x (by omega)]
    show 0 ≤ d.car (j + 1) - d.car j - 1
    omega
/-! ### done -/
theorem Arg.segP_ok (h : ArgOk d) (hW : d.W ≠ []) (x : Nat → List UInt8) : Sat (d.rho x) (segP d.g) := by
  have g6 := Arg.g6 h
  refine sat_appL.2 ⟨fun f hf => ?_, sat_appL.2 ⟨fun f hf => ?_, ?_⟩⟩
  · obtain ⟨j, hj, hf⟩ := mem_catL.1 hf
    have hj := (mem_upto.1 hj).2
    have hj : j < d.g := by omega
    have e1 := Arg.segF_den h (x := x) hj
    have e2 := Arg.segT_den h (x := x) hj
    have e3 : (lv (eA (dId j))).den (d.rho x) = (d.y j).1 := by rw [lvA]; exact (Arg.v_el h x hj).1
    have e4 : (lv (eH (dId j))).den (d.rho x) = (d.y j).2 := by rw [lvH]; exact (Arg.v_el h x hj).2
    have f1 := fE_1 (d.y j)
    have f2 := fE_2 (d.y j)
    have f3 := tE_1 (d.y j)
    have f4 := tE_2 (d.y j)
    simp only [List.mem_cons, List.not_mem_nil, or_false] at hf
    rcases hf with rfl | rfl | rfl | rfl
    · rw [ge_den, e1, e3]; omega
    · rw [ge_den, e1, e4]; omega
    · rw [ge_den, e2, e3]; omega
    · rw [ge_den, e2, e4]; omega
  · obtain ⟨j, hj, rfl⟩ := mem_mapL.1 hf
    have hj := mem_upto.1 hj
    rw [Nat.pred_eq_sub_one] at hj
    have := Arg.seg_pos h (j := j) hj.1 (by omega)
    rw [ge_den, const_den, show [Pc.a (Nat.add 20 (Nat.mul 2 j))] = [Pc.a (20 + 2 * j)] from rfl, len_a, d.s_seg x (by omega)]
    omega
  · have h1 := h.W
    have h2 : 1 ≤ d.W.length := List.length_pos_iff.2 hW
    refine sat_cons ?_ (sat_cons ?_ sat_nil)
    · rw [le'_den, lenS_den, Arg.segs_den h]; omega
    · rw [ge_den, const_den, lenS_den, Arg.segs_den h]; omega
theorem brk_takeL {l : List UInt8} (k : Nat) : brk (l.take k) ≤ brk l := by
  have : brk l = brk (l.take k) + brk (l.drop k) := by rw [← brk_app, List.take_append_drop]
  omega
theorem indL_len (l : List UInt8) (n : Nat) : (indL l n).length ≤ l.length := by
  unfold indL lineL
  rw [List.length_take, List.length_take, List.length_drop]
  omega
theorem Arg.lnP_ok (h : ArgOk d) (x : Nat → List UInt8) : Sat (d.rho x) (lnP d.g) := fun f hf => by
  have g6 := Arg.g6 h
  obtain ⟨j, hj, hf⟩ := mem_catL.1 hf
  have hj := (mem_upto.1 hj).2
  have e1 : (lv (lnJ j)).den (d.rho x) = (d.ln j : Nat) := by rw [lnJ_den, d.v_ln x (by omega)]
  simp only [List.mem_cons, List.not_mem_nil, or_false] at hf
  rcases hf with rfl | rfl | rfl
  · rw [e1]; omega
  · obtain ⟨t1, _, _⟩ := d.tal_ok x _ _ (code_ok d.g g6)
    have e2 : (lv (tlB (codeG d.g))).den (d.rho x) = (brk d.W : Nat) := by
      have := lv_l (ρ := d.rho x) (2000 + 3 * codeG d.g)
      rw [t1, zer_len, Arg.segs_den h] at this
      rw [show tlB (codeG d.g) = 4 * (2000 + 3 * codeG d.g) + 1 by show 8001 + 12 * codeG d.g = _; omega]; exact this
    rw [ge_den, e1, e2]
    have : d.ln j ≤ brk d.W := brk_takeL _
    omega
  · rw [le'_den, show [Pc.a (Nat.add 60 j)] = [Pc.a (60 + j)] from rfl, len_a]
    have hi := (Arg.rhoG h x).ind j (by omega)
    rw [hi, Arg.segs_den h]
    have := indL_len d.W ((d.rho x).v (3500 + j)).toNat
    have := h.W
    omega
theorem Arg.s8_len (h : ArgOk d) : d.s.length ≤ (guardF d.s).length ∧ (guardF d.s).length ≤ 80 := by
  obtain ⟨g1, g2⟩ := guardF_len d.s
  have := h.s
  omega
open Classical in
noncomputable def Arg.em (d : Arg) : Bool := decide (d.s = [])
theorem Arg.em_iff (d : Arg) : d.em = true ↔ d.s = [] := by unfold Arg.em; simp
theorem Arg.textP_den (d : Arg) (x : Nat → List UInt8) : denS (d.rho x) (textP d.g d.em) = d.s := by
  by_cases h : d.s = []
  · rw [d.em_iff.2 h, h]; rfl
  · have : d.em = false := by rw [Bool.eq_false_iff]; exact fun e => h (d.em_iff.1 e)
    rw [this]
    show denS (d.rho x) [.a 7] = _
    rw [d1, d.s7]
theorem Arg.doneR (h : ArgOk d) (hW : d.W ≠ []) (x : Nat → List UInt8) : DoneR d.g d.em (d.rho x) := by
  have g6 := Arg.g6 h
  obtain ⟨l1, l2⟩ := Arg.s8_len h
  have hs := h.s
  have a7 : (d.rho x).at 29 = (d.s.length : Int) := ((d.rho x).at_l 7).trans (by rw [d.s7])
  have a8 : (d.rho x).at 33 = ((guardF d.s).length : Int) := ((d.rho x).at_l 8).trans (by rw [d.s8])
  refine ⟨Arg.rhoG h x, Arg.rowR h x, by rw [d.s7]; exact h.lf, by rw [d.s7, d.s8], fun e => by rw [d.s7]; exact d.em_iff.1 e, by rw [Arg.segs_den h, d.W3_den], ?_, ?_⟩
  · refine ⟨fun gd u v hm _ => ?_, fun gd u v hm _ => ?_⟩
    · have hm : (gd, u, v) = ([], N3, newT d.g (textP d.g d.em)) := by simpa [rW] using hm
      cases hm
      rw [d.N3_den, Arg.newT_den h (d.textP_den x)]
    · obtain ⟨j, hj, hq⟩ := mem_mapL.1 (show (gd, u, v) ∈ mapL (fun j => ([], lv (carJ j), lenS (newS (textP d.g d.em) j))) (upto 0 d.g) from hm)
      have hj := (mem_upto.1 hj).2
      cases hq
      rw [lvCar' d x (by omega), lenS_den, Arg.newS_den h (d.textP_den x) (by omega)]; rfl
  · refine sat_appL.2 ⟨?_, sat_appL.2 ⟨sat_appL.2 ⟨Arg.segP_ok h hW x, sat_appL.2 ⟨Arg.lnP_ok h x, ?_⟩⟩, ?_⟩⟩
    · cases he : d.em with
      | true => exact sat_nil
      | false =>
        have : 1 ≤ d.s.length := List.length_pos_iff.2 fun e => by rw [d.em_iff.2 e] at he; cases he
        refine sat_cons ?_ (sat_cons ?_ sat_nil) <;> simp only [Lin.den, dts, a7] <;> omega
    · refine sat_cons ?_ (sat_cons ?_ sat_nil) <;> simp only [Lin.den, dts, a7, a8] <;> omega
    · cases he : d.em with
      | true => exact sat_nil
      | false =>
        have : 1 ≤ d.s.length := List.length_pos_iff.2 fun e => by rw [d.em_iff.2 e] at he; cases he
        refine sat_cons ?_ sat_nil
        simp only [Lin.den, dts, a8]; omega
end
end X
end Go.Proofs.YtdbchpoaoghgpaaGreatDoor

set_option linter.unusedSimpArgs false
set_option linter.unusedVariables false
namespace Go.Proofs.YtdbchpoaoghgpaaGreatDoor
namespace X
open Go.RowKit B
set_option maxRecDepth 1000000

section
variable {d : Arg} {x : Nat → List UInt8}
/-! ### The empty text -/
theorem Arg.E (h : ArgOk d) (hW : d.W = []) : d.g = 1 ∧ d.y 0 = (0, 0) ∧ d.N = d.s ∧ d.car 0 = d.s.length := by
  have hn : d.none = true := by unfold Arg.none; simp [hW]
  have ew : d.w = 0 := by unfold Arg.w; rw [hW]; rfl
  have e : d.ys = [(0, 0)] := by unfold Arg.ys; rw [if_pos hn, ew]
  have eg : d.g = 1 := by unfold Arg.g; rw [e]; rfl
  have es : ∀ i, d.seg i = [] := fun i => by unfold Arg.seg; rw [hW]; simp
  have e1 : d.nw 1 = d.s := by
    show [] ++ d.seg 0 ++ d.s = _
    rw [es]; rfl
  refine ⟨eg, by unfold Arg.y; rw [e]; rfl, ?_, ?_⟩
  · unfold Arg.N
    rw [eg, e1, es, List.append_nil]
  · unfold Arg.car
    rw [e1]
theorem Arg.E13 (h : ArgOk d) (hW : d.W = []) (x : Nat → List UInt8) : (d.rho x).s 13 = d.s := by
  have e := (Arg.E h hW).2.2.1
  rw [d.s13, e, hW]
  have e0 : frF [] d.s = 0 := rfl
  have e1 : enF [] d.s = 0 := by unfold enF; rw [e0]; rfl
  unfold midG
  rw [e0, e1]
  simp
theorem Arg.empR (h : ArgOk d) (hW : d.W = []) (x : Nat → List UInt8) : EmpR (d.rho x) := by
  obtain ⟨eg, ey, eN, ec⟩ := Arg.E h hW
  have v := d.v_sel x (j := 0) (by omega)
  have c := d.v_car2 x (j := 0) (by omega)
  rw [ey] at v
  refine ⟨by rw [d.v_g, eg]; rfl, v.1, v.2, c.1.trans ?_, c.2.trans ?_⟩ <;> rw [ec, d.s7]
theorem dnIe_all (e : Bool) : dnIeK e = true ∧ dnTeK e = true := by
  cases e
  · exact ⟨dnIe_f, dnTe_f⟩
  · exact ⟨dnIe_t, dnTe_t⟩
theorem fEach_ok (h : ArgOk d) (x : Nat → List UInt8) : CallY Tryz.prog (d.rho x) 328 fEach := by
  have d7 : denS (d.rho x) [.a 7] = d.s := (d1 7).trans (d.s7 x)
  have hs := h.s
  obtain ⟨I, hI⟩ := ccN_ok (ρ0 := d.rho x) (Arg.v_0 h x) (M := 60) (Y := [.a 7]) (vk := []) (cl := [noB 10]) (by rw [d7]; omega) (by rw [d7]; omega) (fun b hb ρ' _ s1 => sat_cons (noB_ok s1 (by omega) (fun e => h.lf (by rw [d7] at hb; rw [e] at hb; exact hb))) sat_nil)
  exact callX_ok mixJ (fun ρ' _ => sortS_ok ρ') fn_each (join_each _) fun t ht => by
    have : t = eachTrig 5 (ccN 60 [.a 7] [] [noB 10]) := by simpa using ht
    rw [this]; exact trc_ok (fun _ _ _ _ => eachTrig_c) hI
theorem Arg.h8 (h : ArgOk d) (x : Nat → List UInt8) : (d.rho x).s 8 = guardF ((d.rho x).s 7) := by rw [d.s8, d.s7]
theorem Arg.he (h : ArgOk d) (x : Nat → List UInt8) (e : d.em = true) : (d.rho x).s 7 = [] := by rw [d.s7]; exact d.em_iff.1 e
theorem smDe_ok (h : ArgOk d) (x : Nat → List UInt8) : SumOk Tryz.prog (d.rho x) (smDe d.em fEach fT [131, 288]) :=
  withF_ok (withF_ok (withF_ok (sortS_ok _) (tallyD_ok (Arg.rhoG h x))) (fEach_ok h x)) (readD_ok (Arg.h8 h x) (Arg.he h x))
theorem rEm_ok (d : Arg) (x : Nat → List UInt8) : RulesOk (d.rho x) (rEm d.em) := by
  cases he : d.em with
  | true =>
    have e := d.em_iff.1 he
    refine rules_ok ⟨fun _ => by rw [d1, d.s7, e]; rfl, trivial⟩ ⟨fun _ => by rw [len_a, d.s7, e]; rfl, trivial⟩
  | false => exact rules_ok trivial trivial
theorem dneP_ok (h : ArgOk d) (x : Nat → List UInt8) : Sat (d.rho x) (dneP d.em) := by
  obtain ⟨l1, l2⟩ := Arg.s8_len h
  have hs := h.s
  have a7 : (d.rho x).at 29 = (d.s.length : Int) := ((d.rho x).at_l 7).trans (by rw [d.s7])
  have a8 : (d.rho x).at 33 = ((guardF d.s).length : Int) := ((d.rho x).at_l 8).trans (by rw [d.s8])
  refine sat_appL.2 ⟨?_, sat_appL.2 ⟨?_, v5_ok (Arg.v_0 h x)⟩⟩
  · cases he : d.em with
    | true =>
      have e := d.em_iff.1 he
      have e8 : (guardF d.s).length = 0 := by rw [e]; rfl
      have e7 : d.s.length = 0 := by rw [e]; rfl
      refine sat_cons ?_ (sat_cons ?_ sat_nil) <;> simp only [Lin.den, dts, a7, a8] <;> omega
    | false =>
      have : 1 ≤ d.s.length := List.length_pos_iff.2 fun e => by rw [d.em_iff.2 e] at he; cases he
      refine sat_cons ?_ (sat_cons ?_ sat_nil) <;> simp only [Lin.den, dts, a7, a8] <;> omega
  · refine sat_cons ?_ (sat_cons ?_ sat_nil) <;> simp only [Lin.den, dts, a7, a8] <;> omega
theorem carS_eq {ρ : Rho} (h : EmpR ρ) : EqB ρ ρ (rowB 5030) carS := row_eq fun θ => by
  have e : (lenS [.a 7]).den ρ = ((ρ.s 7).length : Int) := len_a 7
  rw [one_pairs h.n, h.c, h.d]
  simp only [carS, dens, den, xl, e, Option.bind_some, Option.map_some]
theorem kIxE_ok (h : ArgOk d) (hW : d.W = []) (x : Nat → List UInt8) : KnownOk Tryz.prog 23 (kIx true) (d.rho x) := by
  have hE := Arg.empR h hW x
  have K : KnownOk Tryz.prog 23 (kDnIe d.em) (d.rho x) := known_of mixJ (smDe_ok h x) (rEm_ok d x) (dnIe_all d.em).1
  refine K.ret (dneP_ok h x) (fun θ => ?_) ⟨rfl, EqB.refl, rfl, sel0_eq hE, trivial⟩ (fun θ => ?_) ⟨rfl, EqB.refl, rfl, (carS_eq hE).symm, trivial⟩ rfl rfl sat_nil rfl rfl rfl rfl
  · show dens (d.rho x) θ [.p 0 0, .ag [.s [], rowV 1, .ns], opV 7 [.a 8]] = dens (d.rho x) θ [.p 0 0, .ag [.s [], .sl 1 0 1 (.q 2), .ns], opV 7 [.a 8]]
    simp only [dens, den, rowV_1 hE]
  · show den (d.rho x) θ (.tu [.ag [.s [.a 7], .sl 4 0 1 (.q 2), .sl 5 0 0 (.q 2)], okV0]) = den (d.rho x) θ (.tu [.ag [.s [.a 13], rowV 4, .sl 5 0 0 (.q 2)], okV0])
    simp only [den, dens, rowV_1 hE, d1, d.s7, Arg.E13 h hW]
theorem kTxE_ok (h : ArgOk d) (hW : d.W = []) (x : Nat → List UInt8) : KnownOk Tryz.prog 23 (kTx true) (d.rho x) := by
  have hE := Arg.empR h hW x
  have eg := (Arg.E h hW).1
  have hR := Arg.rowR h x
  rw [eg] at hR
  have K : KnownOk Tryz.prog 23 (kDnTe d.em) (d.rho x) := known_of mixJ (smDe_ok h x) (rEm_ok d x) (dnIe_all d.em).2
  refine K.ret (dneP_ok h x) (fun θ => ?_) ⟨rfl, EqB.refl, rfl, sel0_eq hE, rfl, shX_eq hR, rfl, sel0_eq hE, trivial⟩ (fun θ => ?_) ⟨rfl, EqB.refl, rfl, (shX_eq hR).symm, rfl, (sel0_eq hE).symm, rfl, (carS_eq hE).symm, trivial⟩ rfl rfl sat_nil rfl rfl rfl rfl
  · show dens (d.rho x) θ [.p 0 0, .ag [.s [], rowV 1, .ns], opV 2 [.a 7]] = dens (d.rho x) θ [.p 0 0, .ag [.s [], .sl 1 0 1 (.q 2), .ns], opV 2 [.a 7]]
    simp only [dens, den, rowV_1 hE]
  · show den (d.rho x) θ (.tu [.ag [.s [.a 7], .sl 7 0 1 (.q 2), .ns], okV0]) = den (d.rho x) θ (.tu [.ag [.s [.a 13], rowV 7, .ns], okV0])
    simp only [den, dens, rowV_1 hE, d1, d.s7, Arg.E13 h hW]
/-! ### All of it -/
theorem Arg.el60 (h : ArgOk d) (x : Nat → List UInt8) : ∀ i, i < 2 * d.g → 0 ≤ (d.rho x).v (5010 + i) ∧ (d.rho x).v (5010 + i) ≤ 60 := fun i hi => by
  have g6 := Arg.g6 h
  have hw : d.w ≤ 60 := by have := h.W; unfold Arg.w; omega
  have hy := Arg.y_in h (i / 2)
  have f1 := fE_1 (d.y (i / 2))
  have f2 := fE_2 (d.y (i / 2))
  have f3 := tE_1 (d.y (i / 2))
  have f4 := tE_2 (d.y (i / 2))
  have v := d.v_sel x (j := i / 2) (by omega)
  rcases (show i % 2 = 0 ∨ i % 2 = 1 by omega) with e | e
  · rw [show 5010 + i = 5010 + 2 * (i / 2) by omega, v.1]; omega
  · rw [show 5010 + i = 5011 + 2 * (i / 2) by omega, v.2]; omega
theorem Arg.l13 (h : ArgOk d) (x : Nat → List UInt8) : ((d.rho x).s 13).length ≤ 300 := by
  have a := len3 (d.rho x)
  rw [d.N3_den] at a
  have := (Arg.N_300 h).1
  omega
theorem rho2_ed {ρ : Rho} {g : Nat} {f t : Int} {l : List UInt8} (θ : Th) : dens (rho2 ρ g f t l) θ [xl (lv 9002), xl (lv 9004), .s [.a 5]] = some [.int .i64 f, .int .i64 t, .string (bstr l)] := by
  have vb : ∀ j, 3007 ≤ j → (rho2 ρ g f t l).v j = baseS ρ f t j := fun j hj => by
    show rhoV _ _ j = _
    unfold rhoV
    rw [if_neg (by omega), if_neg (by omega)]
  have v1 : (lv 9002).den (rho2 ρ g f t l) = f := by
    rw [show 9002 = 2 * 4501 from rfl, lv_v, vb _ (by omega)]; rfl
  have v2 : (lv 9004).den (rho2 ρ g f t l) = t := by
    rw [show 9004 = 2 * 4502 from rfl, lv_v, vb _ (by omega)]; rfl
  have e : denS (rho2 ρ g f t l) [.a 5] = l := (d1 5).trans rfl
  simp only [dens, den, xl, v1, v2, e, Option.bind_some, Option.map_some]
theorem kSX_ok (h : ArgOk d) (x : Nat → List UInt8) (e : Bool) (hW : e = true → d.W = []) : KnownOk Tryz.prog 115 (kSX e) (d.rho x) := by
  have hR := Arg.rowR h x
  have l13 := Arg.l13 h x
  cases e with
  | true =>
    exact kS_ok hR (f := 0) (t := 0) (l := (d.rho x).s 13) (by omega) (by omega) (by omega) (by omega) (Arg.el60 h x) (u := okV0) (v := okV0) (w := .s [.a 13]) fun θ => by
      rw [rho2_ed]
      simp only [dens, den, okV0, d1, Option.bind_some, Option.map_some]
      rfl
  | false =>
    have hw := h.W
    have e3 : d.W.length = ((d.rho x).s 10).length + ((d.rho x).s 11).length + ((d.rho x).s 12).length := by
      rw [← d.W3_den x, show denS (d.rho x) W3 = (d.rho x).s 10 ++ ((d.rho x).s 11 ++ (d.rho x).s 12) by simp [W3, denS, Pc.den], List.length_append, List.length_append]; omega
    have e10 : (lenS [.a 10]).den (d.rho x) = (((d.rho x).s 10).length : Int) := len_a 10
    have e11 : (lenS [.a 10, .a 11]).den (d.rho x) = (((d.rho x).s 10).length : Int) + (((d.rho x).s 11).length : Int) := by
      rw [lenS_den, show denS (d.rho x) [.a 10, .a 11] = (d.rho x).s 10 ++ (d.rho x).s 11 by simp [denS, Pc.den], List.length_append]; omega
    exact kS_ok hR (f := ((d.rho x).s 10).length) (t := ((d.rho x).s 10).length + ((d.rho x).s 11).length) (l := (d.rho x).s 13) (by omega) (by omega) (by omega) (by omega) (Arg.el60 h x) (u := svx .i64 (lenS [.a 10])) (v := svx .i64 (lenS [.a 10, .a 11])) (w := .s [.a 13]) fun θ => by
      rw [rho2_ed]
      simp only [dens, den, svx_den, e10, e11, d1, Option.bind_some, Option.map_some]
theorem kTw_ok {ρ : Rho} (h : Sat ρ textQ) : KnownOk Tryz.prog 50 kTw ρ := by
  have K : KnownOk Tryz.prog 50 { kTw with pc0 := textQ } ρ := known_of mixJ (smZ_ok ρ) rN_ok tw_k
  exact fun _ => K h
theorem textX_den (d : Arg) (x : Nat → List UInt8) {e : Bool} (hW : e = true ↔ d.W = []) : denS (d.rho x) (textX e) = d.W := by
  cases e with
  | true => rw [hW.1 rfl]; rfl
  | false => exact d.W3_den x
theorem newX_den (h : ArgOk d) (x : Nat → List UInt8) {e : Bool} (hW : e = true ↔ d.W = []) : denS (d.rho x) (newX e) = d.N := by
  cases e with
  | true =>
    show denS (d.rho x) [.a 13] = _
    rw [d1, Arg.E13 h (hW.1 rfl), (Arg.E h (hW.1 rfl)).2.2.1]
  | false => exact d.N3_den x
/-- awake -/
theorem enterAwake (args : Array Value) (w : World) : (callFunc 4 args).run Tryz.prog w = .ok (.enter 4 args) w := enter_run (fn := Tryz.f4) (by kernel_rfl) (by kernel_rfl) rfl args w
theorem awake_c (w : World) : Calls Tryz.prog 4 #[] w (fun e w' => e = .returned (.bool true) ∧ Ext none' w w') := by
  obtain ⟨r, h1, _, h2⟩ := pure_of (ρ := ⟨fun _ => 0, fun _ => []⟩) (vs := []) (g := go sortS 4) (K := fun v _ _ _ => isTr v) (callBy_c mixJ (sortS_ok _)) sat_nil aw_k rfl
  refine calls_mono (h2 w) fun e w' ⟨v, θ, q1, q2, q3⟩ => ?_
  unfold isTr at h1
  split at h1
  · rename_i hv
    rw [hv] at q2
    cases q2
    exact ⟨q1, q3⟩
  · cases h1
theorem awakeS_ok {ρ : Rho} : CallY Tryz.prog ρ 4 awakeS := fun args m nx pc hs => by
  unfold awakeS
  split
  · refine Yl.pure (⟨.b true, m, nx, pc⟩ : O4) (CallR.pur enterAwake hs fun θ w vs hvs => ?_)
    cases hvs
    exact ⟨_, rfl, awake_c w⟩
  · exact Yl.no
theorem kPX_ok (h : ArgOk d) (x : Nat → List UInt8) {e : Bool} (hW : e = true ↔ d.W = []) : KnownOk Tryz.prog 5 (kPx e (nsA d.n) (nsM d.n)) (d.rho x) := by
  cases e with
  | true => exact kPxE_ok (Arg.empR h (hW.1 rfl) x) (Arg.v_n h x) h.n
  | false => exact kPx_ok (Arg.plainR h (fun q => by have := hW.2 q; cases this) x)
theorem doneX_ok (h : ArgOk d) (x : Nat → List UInt8) {e : Bool} (hW : e = true ↔ d.W = []) : CallY Tryz.prog (d.rho x) 23 (doneX e) := fun args m nx pc hs => by
  have hI : KnownOk Tryz.prog 23 (kIx e) (d.rho x) := by
    cases e with
    | true => exact kIxE_ok h (hW.1 rfl) x
    | false => exact kIx_ok (Arg.doneR h (fun q => by have := hW.2 q; cases this) x)
  have hT : KnownOk Tryz.prog 23 (kTx e) (d.rho x) := by
    cases e with
    | true => exact kTxE_ok h (hW.1 rfl) x
    | false => exact kTx_ok (Arg.doneR h (fun q => by have := hW.2 q; cases this) x)
  unfold doneX
  split
  · exact cutI_ok rN_ok hI rfl _ m nx pc hs
  · exact cutI_ok rN_ok hT rfl _ m nx pc hs
  · exact Yl.no
theorem nx_all (e : Bool) (g : Nat) (h1 : 1 ≤ g) (h6 : g ≤ 6) (he : e = true → g = 1) : nxK e g = true := by
  cases e with
  | true => rw [he rfl]; exact nxt_1
  | false => exact nxf_all g h1 h6
theorem kNX_ok (h : ArgOk d) (x : Nat → List UInt8) {e : Bool} (hW : e = true ↔ d.W = []) : KnownOk Tryz.prog 46 (kNx e) (d.rho x) :=
  kNx_ok (Arg.rowR h x) (nx_all e d.g (Arg.ys_ok h).1 (Arg.g6 h) fun q => (Arg.E h (hW.1 q)).1) (Arg.carQ_ok h x (newX_den h x hW))
theorem go_ok {ρ : Rho} {sm : SumT} (h : SumOk Tryz.prog ρ sm) (f : Nat) : CallY Tryz.prog ρ f (go sm f) := callBy_c mixJ h
/-- where the text is of one piece -/
theorem textC_ok (h : ArgOk d) (x : Nat → List UInt8) {f : SumF} (hf : CallY Tryz.prog (d.rho x) 50 f) (hW : d.W ≠ []) : CallY Tryz.prog (d.rho x) 50 (textD f) := textD_ok (kTw_ok (Arg.textQ_ok h hW x)) hf
end
end X
end Go.Proofs.YtdbchpoaoghgpaaGreatDoor

set_option linter.unusedSimpArgs false
set_option linter.unusedVariables false
namespace Go.Proofs.YtdbchpoaoghgpaaGreatDoor
namespace X
open Go.RowKit B
set_option maxRecDepth 1000000

section
variable {d : Arg}
theorem kEq_x (h : ArgOk d) (x : Nat → List UInt8) : KnownOk Tryz.prog 26 kEq (d.rho x) := kEq_ok (Arg.rowR h x)
theorem s0X_ok (h : ArgOk d) {e : Bool} (hW : e = true ↔ d.W = []) (x : Nat → List UInt8) : SumOk Tryz.prog (d.rho x) (s0X e) := by
  refine withF_ok (withF_ok (withF_ok (withF_ok (withF_ok (sortS_ok _) ?_) (cutI_ok rN_ok (kEq_x h x) rfl)) (cloneX_ok (Arg.rowR h x) (go_ok (smZ_ok _) _))) (tallyD_ok (Arg.rhoG h x))) awakeS_ok
  cases e with
  | true => exact go_ok (sortS_ok _) _
  | false => exact textC_ok h x (go_ok (sortS_ok _) _) fun q => by have := hW.2 q; cases this
theorem s1X_ok (h : ArgOk d) {e : Bool} (hW : e = true ↔ d.W = []) (x : Nat → List UInt8) : SumOk Tryz.prog (d.rho x) (s1X e 300) := by
  have s0 := s0X_ok h hW x
  exact withF_ok (withF_ok (withF_ok (withF_ok s0 (cutI_ok rN_ok (kNX_ok h x hW) (by cases e <;> rfl))) (turnX_ok (fun _ => Arg.turnR h x) (by have := Arg.l13 h x; omega) (go_ok s0 _))) (weldD_ok (Arg.weldR h x) (go_ok s0 _))) (cutI_ok rN_ok (kSX_ok h x e hW.1) (by cases e <;> rfl))
theorem s3X_ok (h : ArgOk d) {e : Bool} (hW : e = true ↔ d.W = []) (x : Nat → List UInt8) : SumOk Tryz.prog (d.rho x) (s3X e 300 (nsA d.n) (nsM d.n)) :=
  withF_ok (withF_ok (withF_ok (s1X_ok h hW x) (cutI_ok rN_ok (kGx_ok (by rw [d.s7]; exact h.s) (Arg.h8 h x)) rfl)) (doneX_ok h x hW)) (cutI_ok rN_ok (kPX_ok h x hW) (by cases e <;> rfl))
theorem fn_top : Tryz.prog.funcs[3]? = some Tryz.f3 := by kernel_rfl
theorem join_top (t : Trig2) : Tryz.f3.body = some (mkX cTop [t]).1.code := by kernel_rfl
abbrev Good (vs : List Value) (w : World) : Prop := Calls Tryz.prog 3 vs.toArray w (fun e w' => e = .returned (.bool true) ∧ Ext none' w w')
/-- what the kernel shows of the statement, whatever stands for the unknowns -/
theorem top_run {ρ : Rho} {args : List SV} {l : ML} {pc : PC} {g : SumF} (hl : ∀ t b, (t, b) ∈ l → b = nsB) (hg : CallY Tryz.prog ρ 3 g) (hs : Sat ρ pc) (hk : mkK l .lf (fun m0 => g args m0 1 pc fun v m _ _ => endK l v m) = true) {w : World} {θ : Th} {vs : List Value} (hd : dens ρ θ args = some vs) (hM : MemOk ρ θ (mkU l .lf).get w) (hθ : ∀ t, 1 ≤ t → θ t = none) : Good vs w := by
  obtain ⟨hk, hT⟩ := mkK_told hk
  obtain ⟨r, hr, h1, _⟩ := hg args (mkU l .lf) 1 pc hs (fun r => endK l r.v r.m) hk
  refine calls_mono (hr.run w θ vs hd hM fun t h _ => hθ t h) fun e w' ⟨v, θ', q1, q2, q3⟩ => ?_
  simp only [endK, Bool.and_eq_true] at h1
  obtain ⟨h1, h2⟩ := h1
  have h2 := allL_ok h2
  unfold isTr at h1
  split at h1
  · rename_i hv
    rw [hv] at q3
    cases q3
    refine ⟨q1, q2.ext.os, q2.ext.tape, q2.ext.output, q2.ext.size, fun i hi _ => ?_⟩
    by_cases hb : Bl θ (mkU l .lf).get i
    · obtain ⟨t, c, hm, ht⟩ := hb
      cases hmb : (mkU l .lf).get t with
      | none => exact absurd hmb hm
      | some b =>
        have hmem := hT t b hmb
        have hnb := hl t b hmem
        have he := eqBlk_ok (h2 t b hmem)
        subst hnb
        obtain ⟨g0, c0, f1, f2, _⟩ := hM.holds t _ hmb
        obtain ⟨g1, c1, k1, k2, _⟩ := q2.mem.holds t _ he
        rw [ht] at f1
        cases f1
        have := q2.le t _ ht
        rw [k1] at this
        cases this
        rw [k2.2, f2.2]
    · exact q2.ext.block i hi hb
  · cases h1
theorem top_run0 {ρ : Rho} {args : List SV} {pc : PC} {g : SumF} (hg : CallY Tryz.prog ρ 3 g) (hs : Sat ρ pc) (hk : g args .lf 1 pc (fun v _ _ _ => isTr v) = true) {w : World} {θ : Th} {vs : List Value} (hd : dens ρ θ args = some vs) (hθ : ∀ t, 1 ≤ t → θ t = none) : Good vs w := by
  refine top_run (l := []) (fun t b h => by cases h) hg hs (?_ : g args .lf 1 pc (fun v m _ _ => endK [] v m) = true) hd ⟨fun t b h => by simp [mkU, Tr.get] at h, fun s t g c c' h => by simp [mkU, Tr.get] at h⟩ hθ
  rw [← hk]
  refine congrArg _ (funext fun v => funext fun m => funext fun _ => funext fun _ => ?_)
  show (isTr v && true) = isTr v
  rw [Bool.and_true]
/-! ### The row of pairs -/
def rawL (xs : List (Int × Int)) (j : Nat) : Int := if j % 2 = 0 then (xs.getD (j / 2) (0, 0)).1 else (xs.getD (j / 2) (0, 0)).2
def thO (g c : Nat) : Th := fun t => if t = 0 then some (g, c) else none
theorem span_row {xs : List (Int × Int)} {j : Nat} (hj : j < 2 * xs.length) : (SpanE.row xs)[j]? = some (.int .i64 (rawL xs j)) := by
  have hx : xs[j / 2]? = some (xs.getD (j / 2) (0, 0)) := by
    rw [List.getD_eq_getElem?_getD, List.getElem?_eq_getElem (by omega)]; rfl
  have hs : SpanE.sz = 2 := rfl
  have e := SpanE.row_get (j := j % 2) hx (by rw [hs]; omega)
  rw [hs, show j / 2 * 2 + j % 2 = j by omega] at e
  rw [e]
  unfold rawL
  rcases (show j % 2 = 0 ∨ j % 2 = 1 by omega) with h | h <;> rw [h] <;> rfl
theorem ns_th {w : World} {v : Value} {xs : List (Int × Int)} (hv : SlT SpanE w v xs) : ∃ g c, ∀ ρ : Rho, ρ.v 2999 = xs.length → den ρ (thO g c) nsV = some v ∧ (xs.length = 0 → den ρ (thO g c) (.sv 0 (.mk 0 [])) = some v) ∧ (xs.length ≠ 0 → (∀ j, j < 2 * xs.length → ρ.v (2000 + j) = rawL xs j) → HoldsB ρ (thO g c) w 0 nsB) := by
  have ev : ∀ {ρ : Rho}, ρ.v 2999 = xs.length → (lv 5998).den ρ = xs.length := fun {ρ} hn => by rw [show 5998 = 2 * 2999 from rfl, lv_v, hn]
  have e0 : ∀ {ρ : Rho}, (Lin.mk 0 []).den ρ = 0 := const_den
  rcases hv.sl with ⟨rfl, h0⟩ | ⟨p, cap, rfl, hcap, hmax⟩
  · refine ⟨0, 0, fun ρ hn => ⟨?_, fun _ => ?_, fun hne => absurd h0 hne⟩⟩
    · have : (lv 5998).den ρ = 0 := by rw [ev hn, h0]; rfl
      simp only [nsV, den, thO, if_true, Option.bind_some, this]
    · simp only [den, thO, if_true, Option.bind_some, e0]
  · have key : ∃ o : Array Value × Nat × Nat × Nat, xs.length ≠ 0 → w.heap[p.block]? = some (.cells o.1 o.2.1 o.2.2) := by
      by_cases hx : xs.length = 0
      · exact ⟨(#[], 0, 0, 0), fun h => absurd hx h⟩
      · have hc := hv.cell 0 _ (span_row (by omega))
        unfold World.cell? at hc
        rw [show ((B.ptrOf (Value.slice (some p) xs.length cap)).add 0).block = p.block from addr_block p 0] at hc
        split at hc
        · rename_i arr ty fr hh
          exact ⟨(arr, ty, fr), fun _ => hh⟩
        · cases hc
    obtain ⟨o, ho⟩ := key
    obtain ⟨c, c1, c2, c3⟩ := adrC_all p cap o
    refine ⟨p.block, c + 1, fun ρ hn => ⟨?_, fun hz => ?_, fun hne hr => ?_⟩⟩
    · simp only [nsV, den, thO, if_true, Option.bind_some, ev hn, c1, c2]
      rw [if_pos (by omega), Int.toNat_natCast]
    · simp only [den, thO, if_true, Option.bind_some, e0, c1, c2, hz]
      rfl
    · refine ⟨p.block, c + 1, rfl, ⟨World.block_lt_of_cell? w _ (hv.cell 0 _ (span_row (by omega))), by rw [ho hne, Nat.add_sub_cancel, c3]⟩, fun j hj => ?_⟩
      rw [hn, Int.toNat_natCast] at hj
      have := hv.cell j _ (span_row hj)
      rw [Nat.add_sub_cancel, c1, hr j hj]
      exact this
/-! ### The cases -/
theorem exL_ok {ρ : Rho} {k : Nat} (h5 : k < 5) (hlo : 64 * k < (denS ρ N3).length ∨ k = 0) (hhi : (denS ρ N3).length ≤ 64 * (k + 1)) : Sat ρ (exL (k + 1)) := by
  have gen : ∀ j, j < 4 → 64 * (j + 1) < (denS ρ N3).length → (denS ρ N3).length ≤ 64 * (j + 2) → Sat ρ [le' (lenS N3) (64 * (j + 2)), ge (lenS N3) (.mk (.ofNat (64 * (j + 1) + 1)) [])] := fun j _ h1 h2 => by
    refine sat_cons ?_ (sat_cons ?_ sat_nil)
    · rw [le'_den, lenS_den]; omega
    · rw [ge_den, lenS_den, const_den, Int.ofNat_eq_natCast]; omega
  match k, h5 with
  | 0, _ =>
    refine sat_cons ?_ sat_nil
    rw [le'_den, lenS_den]; omega
  | 1, _ => exact gen 0 (by omega) (by omega) (by omega)
  | 2, _ => exact gen 1 (by omega) (by omega) (by omega)
  | 3, _ => exact gen 2 (by omega) (by omega) (by omega)
  | 4, _ => exact gen 3 (by omega) (by omega) (by omega)
  | n + 5, h => exact absurd h (by omega)
section
variable {ρ : Rho}
theorem z_ok {i : Nat} (h : (ρ.s i).length = 0) : 0 ≤ (Lin.mk 0 [(4 * i + 1, -1)]).den ρ := by
  simp only [Lin.den, dts, ρ.at_l, h]; omega
theorem p_ok {i : Nat} (h : (ρ.s i).length ≠ 0) : 0 ≤ (Lin.mk (-1) [(4 * i + 1, 1)]).den ρ := by
  simp only [Lin.den, dts, ρ.at_l]; omega
theorem exE_ok : ∃ x, (x = exE ∨ x = exF) ∧ Sat ρ x := by
  by_cases h : (ρ.s 11).length = 0
  · exact ⟨exE, .inl rfl, sat_cons (z_ok (i := 11) h) sat_nil⟩
  · exact ⟨exF, .inr rfl, sat_cons (p_ok (i := 11) h) sat_nil⟩
theorem ex_ok : ∃ x, (x = exU ∨ x = exV ∨ x = exB ∨ x = exC) ∧ Sat ρ x := by
  by_cases h : (ρ.s 10).length = 0 <;> by_cases h' : (ρ.s 12).length = 0
  · exact ⟨exU, .inl rfl, sat_cons (z_ok (i := 10) h) (sat_cons (z_ok (i := 12) h') sat_nil)⟩
  · exact ⟨exV, .inr (.inl rfl), sat_cons (z_ok (i := 10) h) (sat_cons (p_ok (i := 12) h') sat_nil)⟩
  · exact ⟨exB, .inr (.inr (.inl rfl)), sat_cons (p_ok (i := 10) h) (sat_cons (z_ok (i := 12) h') sat_nil)⟩
  · exact ⟨exC, .inr (.inr (.inr rfl)), sat_cons (p_ok (i := 10) h) (sat_cons (p_ok (i := 12) h') sat_nil)⟩
theorem len_k (h : (denS ρ N3).length ≤ 320) : ∃ k, k < 5 ∧ (64 * k < (denS ρ N3).length ∨ k = 0) ∧ (denS ρ N3).length ≤ 64 * (k + 1) := by
  refine ⟨((denS ρ N3).length - 1) / 64, ?_, ?_, ?_⟩ <;> omega
/-- some of the cases holds -/
theorem pick (h : (denS ρ N3).length ≤ 320) : ∃ p, Sat ρ p ∧ mainK false 300 nsV [(0, nsB)] p = true := by
  obtain ⟨k, k5, k1, k2⟩ := len_k h
  have hL := exL_ok k5 k1 k2
  obtain ⟨x, hx, sx⟩ := ex_ok (ρ := ρ)
  obtain ⟨y, hy, sy⟩ := exE_ok (ρ := ρ)
  have one : ∀ {j}, Sat ρ (exL j) → runX x j = true → ∃ p, Sat ρ p ∧ mainK false 300 nsV [(0, nsB)] p = true := fun hj hr => ⟨_, sat_appL.2 ⟨sx, hj⟩, hr⟩
  have two : ∀ {j}, Sat ρ (exL j) → runX (appL x y) j = true → ∃ p, Sat ρ p ∧ mainK false 300 nsV [(0, nsB)] p = true := fun hj hr => ⟨_, sat_appL.2 ⟨sat_appL.2 ⟨sx, sy⟩, hj⟩, hr⟩
  match k, k5 with
  | 0, _ =>
    rcases hx with rfl | rfl | rfl | rfl
    · exact one hL main_u1
    · exact one hL main_v1
    · exact one hL main_b1
    · exact one hL main_c1
  | 1, _ =>
    rcases hx with rfl | rfl | rfl | rfl
    · exact one hL main_u2
    · exact one hL main_v2
    · exact one hL main_b2
    · exact one hL main_c2
  | 2, _ =>
    rcases hx with rfl | rfl | rfl | rfl
    · exact one hL main_u3
    · rcases hy with rfl | rfl
      · exact two hL main_v3e
      · exact two hL main_v3f
    · rcases hy with rfl | rfl
      · exact two hL main_b3e
      · exact two hL main_b3f
    · exact one hL main_c3
  | 3, _ =>
    rcases hx with rfl | rfl | rfl | rfl
    · exact one hL main_u4
    · rcases hy with rfl | rfl
      · exact two hL main_v4e
      · exact two hL main_v4f
    · rcases hy with rfl | rfl
      · exact two hL main_b4e
      · exact two hL main_b4f
    · exact one hL main_c4
  | 4, _ =>
    rcases hx with rfl | rfl | rfl | rfl
    · exact one hL main_u5
    · rcases hy with rfl | rfl
      · exact two hL main_v5e
      · exact two hL main_v5f
    · rcases hy with rfl | rfl
      · exact two hL main_b5e
      · exact two hL main_b5f
    · exact one hL main_c5
  | n + 5, h => exact absurd h (by omega)
theorem pick0 (h : (denS ρ N3).length ≤ 100) : ∃ p, Sat ρ p ∧ mainK false 300 (.sv 0 (.mk 0 [])) [] p = true := by
  obtain ⟨k, k5, k1, k2⟩ := len_k (ρ := ρ) (by omega)
  have hL := exL_ok k5 k1 k2
  obtain ⟨x, hx, sx⟩ := ex_ok (ρ := ρ)
  have one : ∀ {j}, Sat ρ (exL j) → run0 x j = true → ∃ p, Sat ρ p ∧ mainK false 300 (.sv 0 (.mk 0 [])) [] p = true := fun hj hr => ⟨_, sat_appL.2 ⟨sx, hj⟩, hr⟩
  match k, k5 with
  | 0, _ =>
    rcases hx with rfl | rfl | rfl | rfl
    · exact one hL main0_u1
    · exact one hL main0_v1
    · exact one hL main0_b1
    · exact one hL main0_c1
  | 1, _ =>
    rcases hx with rfl | rfl | rfl | rfl
    · exact one hL main0_u2
    · exact one hL main0_v2
    · exact one hL main0_b2
    · exact one hL main0_c2
  | n + 2, _ => omega
end
theorem mainX_ok (h : ArgOk d) {e : Bool} (hW : e = true ↔ d.W = []) (x : Nat → List UInt8) : Sat (d.rho x) (mainX e 300) := by
  have v5 := v5_ok (Arg.v_0 h x)
  cases e with
  | true =>
    refine sat_appL.2 ⟨sat_cons ?_ sat_nil, v5⟩
    have := h.s
    rw [le'_den, len_a, Arg.E13 h (hW.1 rfl)]; omega
  | false =>
    have hne : d.W ≠ [] := fun q => by have := hW.2 q; cases this
    have hw := h.W
    have hN := (Arg.N_300 h).1
    have cW : encS W3 = some codeW := by kernel_rfl
    obtain ⟨t1, t2, t3⟩ := d.tal_ok x _ _ cW
    rw [d.W3_den] at t1 t2 t3
    have w1 := brk_le (l := d.W)
    have w2 := run_bnd (l := d.W)
    have v1 : (lv (tlB codeW)).den (d.rho x) = (brk d.W : Int) := by
      have := lv_l (ρ := d.rho x) (2000 + 3 * codeW); rw [t1, zer_len] at this
      rw [show tlB codeW = 4 * (2000 + 3 * codeW) + 1 by show 8001 + 12 * codeW = _; omega]; exact this
    have v2 : (lv (Nat.add (tlB codeW) 4)).den (d.rho x) = (cntF runB d.W : Int) := by
      have := lv_l (ρ := d.rho x) (2001 + 3 * codeW); rw [t2, zer_len] at this
      rw [show Nat.add (tlB codeW) 4 = 4 * (2001 + 3 * codeW) + 1 by show 8001 + 12 * codeW + 4 = _; omega]; exact this
    have v3 : (lv (Nat.add (tlB codeW) 8)).den (d.rho x) = (cntF uniB d.W : Int) := by
      have := lv_l (ρ := d.rho x) (2002 + 3 * codeW); rw [t3, zer_len] at this
      rw [show Nat.add (tlB codeW) 8 = 4 * (2002 + 3 * codeW) + 1 by show 8001 + 12 * codeW + 8 = _; omega]; exact this
    refine sat_appL.2 ⟨Arg.textQ_ok h hne x, sat_appL.2 ⟨?_, sat_cons ?_ v5⟩⟩
    · refine sat_cons ?_ (sat_cons ?_ (sat_cons ?_ (sat_cons ?_ sat_nil)))
      · rw [le'_den, v1]; omega
      · rw [le'_den, v2]; omega
      · rw [le'_den, v3]; omega
      · rw [ge_den, lenS_den, d.W3_den, v1]; omega
    · rw [le'_den, lenS_den, d.N3_den]; omega
theorem own_ok {ρ : Rho} {sm : SumT} (hsm : ∀ ρ', Agree ρ ρ' → SumOk Tryz.prog ρ' sm) (h0 : ρ.v 500 = 0) (hl : (ρ.s 7).length ≤ 40) (hf : (10 : UInt8) ∉ ρ.s 7) : CallY Tryz.prog ρ 3 (callX' Tryz.prog sm 3 cTop [ownTrig (ccN 60 [.a 7] [] [noB 10])]) := by
  have d7 : denS ρ [.a 7] = ρ.s 7 := d1 7
  obtain ⟨I, hI⟩ := ccN_ok (ρ0 := ρ) h0 (M := 60) (Y := [.a 7]) (vk := []) (cl := [noB 10]) (by rw [d7]; omega) (by rw [d7]; omega) (fun b hb ρ' _ s1 => sat_cons (noB_ok s1 (by omega) (fun e => hf (by rw [d7] at hb; rw [e] at hb; exact hb))) sat_nil)
  exact callX_ok mixJ hsm fn_top (join_top _) fun t ht => by
    have : t = ownTrig (ccN 60 [.a 7] [] [noB 10]) := by simpa using ht
    rw [this]; exact trc_ok (fun _ _ _ _ => ownTrig_c) hI
theorem main_c (h : ArgOk d) {w : World} {v : Value} {xs : List (Int × Int)} (hv : SlT SpanE w v xs) (hn : d.n = xs.length) (hr : d.raw = rawL xs) : Good [.string (bstr d.W), v, .string (bstr d.s)] w := by
  obtain ⟨g, c, hth⟩ := ns_th hv
  let x : Nat → List UInt8 := fun _ => []
  obtain ⟨e, hW⟩ : ∃ e : Bool, e = true ↔ d.W = [] := by
    by_cases q : d.W = []
    · exact ⟨true, by simp [q]⟩
    · exact ⟨false, by simp [q]⟩
  obtain ⟨t1, t2, t3⟩ := hth (d.rho x) (by rw [Arg.v_n h x, hn])
  have hg := own_ok (ρ := d.rho x) (sm := s3X e 300 (nsA d.n) (nsM d.n)) (fun ρ' ha => by
    obtain ⟨x', rfl⟩ := Arg.agree ha
    exact s3X_ok h hW x') (Arg.v_0 h x) (by rw [d.s7]; exact h.s) (by rw [d.s7]; exact h.lf)
  have hN := Arg.N_300 h
  have run : ∃ p, Sat (d.rho x) p ∧ mainK e 300 (nsA d.n) (nsM d.n) p = true := by
    cases e with
    | true =>
      refine ⟨[], sat_nil, ?_⟩
      cases hd : d.n with
      | zero => exact main0_e
      | succ k => exact main_e
    | false =>
      cases hd : d.n with
      | zero => exact pick0 (by rw [d.N3_den]; exact hN.2 hd)
      | succ k => exact pick (by rw [d.N3_den]; have := hN.1; omega)
  obtain ⟨p, sp, hk⟩ := run
  have hl : ∀ t b, (t, b) ∈ nsM d.n → b = nsB := fun t b hb => by
    unfold nsM at hb
    split at hb
    · cases hb
    · simp at hb; exact hb.2
  refine top_run (θ := thO g c) hl hg (sat_appL.2 ⟨sp, mainX_ok h hW x⟩) hk ?_ ?_ fun t ht => by unfold thO; rw [if_neg (by omega)]
  · have e1 : denS (d.rho x) (textX e) = d.W := textX_den d x hW
    have e2 : denS (d.rho x) [.a 7] = d.s := (d1 7).trans (d.s7 x)
    have e3 : den (d.rho x) (thO g c) (nsA d.n) = some v := by
      cases hd : d.n with
      | zero => exact t2 (by omega)
      | succ k => exact t1
    simp only [dens, e3]
    simp only [den, e1, e2, Option.bind_some, Option.map_some]
  · cases hd : d.n with
    | zero => exact ⟨fun t b q => by simp [nsM, mkU, Tr.get] at q, fun s t g c c' q => by simp [nsM, mkU, Tr.get] at q⟩
    | succ k =>
      obtain ⟨_, q2⟩ := mkK_get (l := nsM (k + 1)) (m := .lf) (K := fun _ => true) rfl
      have gt : ∀ t b, (mkU (nsM (k + 1)) .lf).get t = some b → t = 0 ∧ b = nsB := fun t b hb => by
        rw [q2] at hb
        simp only [nsM, lookU, Tr.get] at hb
        split at hb
        · rename_i e0; cases hb; exact ⟨e0, rfl⟩
        · cases hb
      refine ⟨fun t b hb => ?_, fun s t g c c' q1 q2' _ _ => ?_⟩
      · obtain ⟨rfl, rfl⟩ := gt t b hb
        refine t3 (by omega) fun j hj => ?_
        have := h.n
        rw [Arg.v_raw h x (by omega), if_pos (by omega), hr]
      · have z : ∀ t, (mkU (nsM (k + 1)) .lf).get t ≠ none → t = 0 := fun t q => by
          cases hb : (mkU (nsM (k + 1)) .lf).get t with
          | none => exact absurd hb q
          | some b => exact (gt t b hb).1
        rw [z s q1, z t q2']
theorem split_at (c : UInt8) : ∀ l : List UInt8, c ∈ l → ∃ u v, l = u ++ c :: v ∧ c ∉ u
  | a :: l, h => by
    by_cases e : a = c
    · exact ⟨[], l, by rw [e]; rfl, by simp⟩
    · have h : c ∈ l := by
        rcases List.mem_cons.1 h with h | h
        · exact absurd h.symm e
        · exact h
      obtain ⟨u, v, h1, h2⟩ := split_at c l h
      exact ⟨a :: u, v, by rw [h1]; rfl, by simp [h2]; exact fun h => e h.symm⟩
/-! ### All of it -/
def rhoX (W s u : List UInt8) (n : Nat) : Rho := ⟨fun j => if j = 2999 then (n : Int) else 0, fun i => match i with
  | 7 => s
  | 9 => u
  | 10 => W
  | _ => []⟩
theorem smAw_ok (ρ : Rho) : SumOk Tryz.prog ρ smAw := withF_ok (smZ_ok ρ) awakeS_ok
theorem topPlain_c (W s : List UInt8) {w : World} {v : Value} {xs : List (Int × Int)} (hv : SlT SpanE w v xs) : Good [.string (bstr W), v, .string (bstr s)] w := by
  obtain ⟨g, c, hth⟩ := ns_th hv
  have hθ : ∀ t, 1 ≤ t → thO g c t = none := fun t ht => by unfold thO; rw [if_neg (by omega)]
  have v5 : ∀ W s u n, (lv 5998).den (rhoX W s u n) = n := fun W s u n => by rw [show 5998 = 2 * 2999 from rfl, lv_v]; rfl
  have l10 : ∀ W s u n, (lenS [.a 10]).den (rhoX W s u n) = W.length := fun W s u n => len_a 10
  have l7 : ∀ W s u n, (lenS [.a 7]).den (rhoX W s u n) = s.length := fun W s u n => len_a 7
  have long : ∀ {p : PC}, lgK p = true → Sat (rhoX W s [] xs.length) p → Good [.string (bstr W), v, .string (bstr s)] w := fun {p} hk hs => by
    obtain ⟨t1, _⟩ := hth (rhoX W s [] xs.length) rfl
    refine top_run0 (θ := thO g c) (go_ok (smAw_ok _) _) hs hk ?_ hθ
    have e1 : denS (rhoX W s [] xs.length) [.a 10] = W := d1 10
    have e2 : denS (rhoX W s [] xs.length) [.a 7] = s := d1 7
    have t1 : den (rhoX W s [] xs.length) (thO g c) (.sv 0 (lv 5998)) = some v := t1
    simp only [argsL, dens, t1]
    simp only [den, e1, e2, Option.bind_some, Option.map_some]
  by_cases hW : W.length ≤ 60
  · by_cases hn : xs.length ≤ 6
    · by_cases hs : s.length ≤ 40
      · by_cases hf : (10 : UInt8) ∈ s
        · obtain ⟨u, r, rfl, hu⟩ := split_at 10 s hf
          rw [List.length_append, List.length_cons] at hs
          obtain ⟨t1, _⟩ := hth (rhoX W u r xs.length) rfl
          have e1 : denS (rhoX W u r xs.length) [.a 10] = W := d1 10
          have e2 : denS (rhoX W u r xs.length) [.a 7, .c 10, .a 9] = u ++ 10 :: r := by simp [denS, Pc.den, rhoX]
          have t1 : den (rhoX W u r xs.length) (thO g c) (.sv 0 (lv 5998)) = some v := t1
          refine top_run0 (θ := thO g c) (own_ok (ρ := rhoX W u r xs.length) (fun ρ' _ => smAw_ok ρ') rfl (by show u.length ≤ 40; omega) hu) (sat_appL.2 ⟨sat_cons ?_ (sat_cons ?_ (sat_cons ?_ sat_nil)), v5_ok rfl⟩) lb_k ?_ hθ
          · rw [le'_den, l10]; omega
          · rw [le'_den, v5]; omega
          · rw [le'_den, lenS_den, e2, List.length_append, List.length_cons]; omega
          · simp only [argsB, dens, t1]
            simp only [den, e1, e2, Option.bind_some, Option.map_some]
        · exact main_c (d := ⟨W, s, xs.length, rawL xs⟩) ⟨hW, hs, hn, hf⟩ hv rfl rfl
      · refine long lg_c (sat_cons ?_ (sat_cons ?_ (sat_cons ?_ sat_nil)))
        · rw [le'_den, l10]; omega
        · rw [le'_den, v5]; omega
        · rw [ge_den, const_den, l7]; omega
    · refine long lg_b (sat_cons ?_ (sat_cons ?_ sat_nil))
      · rw [le'_den, l10]; omega
      · rw [ge_den, const_den, v5]; omega
  · refine long lg_a (sat_cons ?_ sat_nil)
    rw [ge_den, const_den, l10]; omega
end
end X
end Go.Proofs.YtdbchpoaoghgpaaGreatDoor
