/-
  TopEdits: RwC, RwH.
-/
import Derived.Test.YtebfahobllghnaaGreatDoorEdC5
import Derived.Test.YtebfahobllghnaaGreatDoorEdB2
set_option linter.unusedSimpArgs false
set_option linter.unusedVariables false
namespace Go.Proofs.YtebfahobllghnaaGreatDoor
namespace X
open Go.RowKit B
set_option maxRecDepth 1000000
section
variable {ρ ρ' : Rho} {P : Program} {f : Nat}
theorem pairs_ints (n b : Nat) : ∀ v ∈ pairs ρ n b, v.oneCell' = true := fun v hv => by
  obtain ⟨j, _, rfl⟩ := List.mem_map.1 hv
  rfl
theorem row_eq {ty n b : Nat} {cs : List SV} (h : ∀ θ, dens ρ' θ cs = some (pairs ρ n b)) : EqB ρ ρ' (.cx ty n b) (.ce ty cs false) := ⟨rfl, fun θ w t => by
  constructor
  · rintro ⟨g, c, arr, rest, f1, f2, f3, f4⟩
    exact ⟨g, c, _, arr, rest, f1, f2, f3, h θ, pairs_ints n b, f4, fun e => by cases e⟩
  · rintro ⟨g, c, vs, arr, rest, f1, f2, f3, f4, _, f5, _⟩
    rw [h θ] at f4
    cases f4
    exact ⟨g, c, arr, rest, f1, f2, f3, f5⟩⟩
theorem rowV_den {n t g : Nat} (hg : ρ.v n = g) (θ : Th) : den ρ θ (.sx t n) = den ρ' θ (.sl t 0 g (.q 2)) := by
  simp only [den, hg, Int.toNat_natCast]
theorem pairs_of {n b g : Nat} (hg : ρ.v n = g) : pairs ρ n b = (List.range (2 * g)).map fun j => .int .i64 (ρ.v (b + j)) := by
  unfold pairs
  rw [hg, Int.toNat_natCast]
theorem dens_two {a h : Nat → Lin} {θ : Th} {c : Nat → Int} : ∀ {g s : Nat}, (∀ j, s ≤ j → j < s + g → (a j).den ρ = c (2 * j) ∧ (h j).den ρ = c (2 * j + 1)) → dens ρ θ (catL (fun j => [xl (a j), xl (h j)]) (upto s g)) = some ((List.range' (2 * s) (2 * g)).map fun j => .int .i64 (c j))
  | 0, s, _ => by simp [upto, catL, dens]
  | g + 1, s, hj => by
    have ih := dens_two (θ := θ) (g := g) (s := s + 1) fun j h1 h2 => hj j (by omega) (by omega)
    obtain ⟨e1, e2⟩ := hj s (by omega) (by omega)
    have e3 : List.range' (2 * s) (2 * (g + 1)) = 2 * s :: (2 * s + 1) :: List.range' (2 * (s + 1)) (2 * g) := by
      rw [show 2 * (g + 1) = (2 * g + 1) + 1 by omega, List.range'_succ, List.range'_succ]
      rfl
    rw [e3]
    simp only [upto, catL, appL, dens, den, xl, Option.bind_some, List.map_cons]
    have ih' : dens ρ θ (catL (fun j => [SV.x .i64 (a j), SV.x .i64 (h j)]) (upto (Nat.succ s) g)) = _ := ih
    rw [ih', e1, e2]
    simp
theorem selsC_cat : ∀ l : List Nat, selsC (mapL dId l) = catL (fun j => [xl (lv (eA (dId j))), xl (lv (eH (dId j)))]) l
  | [] => rfl
  | j :: l => by simp only [mapL, selsC, catL, appL, selsC_cat l]; rfl
end
def rB (n b : Nat) : Blk := .cx 57 n b
def rV (t n : Nat) : SV := .sx t n
structure RowIs (ρ : Rho) (n b : Nat) (xs : List Se) : Prop where
  len : ρ.v n = xs.length
  el : ∀ j, j < xs.length → ρ.v (b + 2 * j) = (xs.getD j z0).1 ∧ ρ.v (b + (2 * j + 1)) = (xs.getD j z0).2
def cellN (xs : List Se) (i : Nat) : Int := if i % 2 = 0 then (xs.getD (i / 2) z0).1 else (xs.getD (i / 2) z0).2
section
variable {ρ ρ' : Rho} {n b n' b' : Nat} {xs ys : List Se}
theorem RowIs.cell (h : RowIs ρ n b xs) {i : Nat} (hi : i < 2 * xs.length) : ρ.v (b + i) = cellN xs i := by
  obtain ⟨e1, e2⟩ := h.el (i / 2) (by omega)
  unfold cellN
  split
  · rename_i q
    rw [← e1, show 2 * (i / 2) = i by omega]
  · rename_i q
    rw [← e2, show 2 * (i / 2) + 1 = i by omega]
theorem RowIs.pairs (h : RowIs ρ n b xs) : pairs ρ n b = (List.range' 0 (2 * xs.length)).map fun i => .int .i64 (cellN xs i) := by
  rw [pairs_of h.len, List.range_eq_range']
  refine List.map_congr_left fun i hi => ?_
  rw [h.cell (by have := List.mem_range'_1.1 hi; omega)]
theorem RowIs.eqr (h : RowIs ρ n b xs) (h' : RowIs ρ' n' b' xs) : EqB ρ ρ' (rB n b) (rB n' b') := ⟨rfl, fun θ w t => by
  show (∃ g c arr rest, _) ↔ ∃ g c arr rest, _
  rw [h.pairs, h'.pairs]⟩
theorem RowIs.eqc (h : RowIs ρ n b xs) {a k : Nat → Lin} (hj : ∀ j, j < xs.length → (a j).den ρ' = (xs.getD j z0).1 ∧ (k j).den ρ' = (xs.getD j z0).2) : EqB ρ ρ' (rB n b) (.ce 57 (catL (fun j => [xl (a j), xl (k j)]) (upto 0 xs.length)) false) := row_eq fun θ => by
  rw [h.pairs]
  exact dens_two (c := cellN xs) (s := 0) fun j _ hl => by
    obtain ⟨e1, e2⟩ := hj j (by omega)
    refine ⟨e1.trans ?_, e2.trans ?_⟩
    · unfold cellN
      rw [if_pos (by omega), show 2 * j / 2 = j by omega]
    · unfold cellN
      rw [if_neg (by omega), show (2 * j + 1) / 2 = j by omega]
theorem RowIs.vd (h : RowIs ρ n b xs) (t : Nat) (θ : Th) : den ρ θ (rV t n) = den ρ' θ (.sl t 0 xs.length (.q 2)) := rowV_den h.len θ
theorem srt_fE {L : Int} (n1 : 1 ≤ xs.length) (hL : ∀ x ∈ xs, InE L x) (h0 : 0 ≤ L) (hk : L ≤ 1000) : ∀ j k, j ≤ k → k < (srt xs).length → fE ((srt xs).getD j z0) ≤ fE ((srt xs).getD k z0) := fun j k h1 h2 => by
  have r := (stg_rise xs (xs.length - 1)).le h1 h2
  have b : ∀ y ∈ srt xs, InE L y := stg_in h0 hL _
  have b1 : InE L ((srt xs).getD j z0) := getD_in b h0 j
  have b2 : InE L ((srt xs).getD k z0) := getD_in b h0 k
  have f1 := fE_le ((srt xs).getD j z0)
  have f2 := fE_le ((srt xs).getD k z0)
  unfold keyE at r
  unfold InE at b1 b2
  unfold srt at b1 b2 f1 f2 ⊢
  omega
theorem norm_in {L : Int} (n1 : 1 ≤ xs.length) (hL : ∀ x ∈ xs, InE L x) (h0 : 0 ≤ L) (hk : L ≤ 1000) : Apt (normE xs) ∧ (∀ y ∈ normE xs, InE L y) ∧ 1 ≤ (normE xs).length ∧ (normE xs).length ≤ xs.length := by
  have l : (srt xs).length = xs.length := by unfold srt; rw [stg_len]; omega
  obtain ⟨a, b, _⟩ := outG_ok (srt_fE n1 hL h0 hk) (L := L) (fun k hk => getD_in (stg_in h0 hL _) h0 k) (xs.length - 1) (by omega)
  have := grp_len (srt xs) (xs.length - 1)
  refine ⟨a, b, ?_, ?_⟩ <;> unfold normE outG <;> simp <;> omega
theorem insE_last {x : Se} : ∀ {l : List Se}, (∀ p ∈ l, keyE p ≤ keyE x) → insE x l = l ++ [x]
  | [], _ => rfl
  | p :: l, h => by
    have := h p (by simp)
    rw [insE, if_neg (by omega), insE_last fun q hq => h q (by simp [hq])]
    rfl
theorem apt_key (h : Apt xs) {j k : Nat} (hjk : j < k) (hk : k < xs.length) : tE (xs.getD j z0) < fE (xs.getD k z0) := by
  induction k with
  | zero => omega
  | succ k ih =>
    have h1 := h k hk
    by_cases e : j = k
    · subst e; exact h1
    · have h2 := ih (by omega) (by omega)
      have h3 := fE_le (xs.getD k z0)
      omega
theorem take_getD {k : Nat} (hk : k < xs.length) : xs.take (k + 1) = xs.take k ++ [xs.getD k z0] := by
  rw [List.take_succ_eq_append_getElem hk, List.getD_eq_getElem?_getD, List.getElem?_eq_getElem hk]
  rfl
theorem stg_apt (h : Apt xs) : ∀ s, s < xs.length → stg xs s = xs.take (s + 1)
  | 0, hs => by
    rw [take_getD hs]; simp [stg]
  | s + 1, hs => by
    rw [stg, stg_apt h s (by omega), take_getD hs]
    refine insE_last fun p hp => ?_
    obtain ⟨i, hi, e⟩ := List.getElem_of_mem hp
    have hi' : i < s + 1 := by rw [List.length_take] at hi; omega
    have e : p = xs.getD i z0 := by
      rw [← e, List.getElem_take, List.getD_eq_getElem?_getD, List.getElem?_eq_getElem (by omega)]
      rfl
    rw [e]
    have h1 := apt_key h hi' hs
    have h2 := fE_le (xs.getD i z0)
    have h3 := fE_le (xs.getD (s + 1) z0)
    unfold keyE
    omega
theorem grp_apt (h : Apt xs) : ∀ i, i < xs.length → grp xs i = ⟨xs.take i, xs.getD i z0⟩
  | 0, hi => rfl
  | i + 1, hi => by
    have := h i hi
    rw [grp, grp_apt h i (by omega)]
    unfold stepG
    rw [if_neg (by simp only; omega), take_getD (by omega)]
theorem norm_apt (n1 : 1 ≤ xs.length) (h : Apt xs) : normE xs = xs := by
  have e : srt xs = xs := by
    unfold srt
    rw [stg_apt h _ (by omega), show xs.length - 1 + 1 = xs.length by omega, List.take_length]
  unfold normE outG
  rw [e, grp_apt h _ (by omega)]
  simp only
  rw [← take_getD (by omega), show xs.length - 1 + 1 = xs.length by omega, List.take_length]
end
end X
end Go.Proofs.YtebfahobllghnaaGreatDoor
namespace Go.Proofs.YtebfahobllghnaaGreatDoor
namespace X
open Go.RowKit B
set_option maxRecDepth 1000000
theorem cutP_ok {P : Program} {ρ : Rho} {f : Nat} {rs : Rules} (hr : RulesOk ρ rs) {k : Known} {τ : Sb} (hk : KnownOk P f k (rhoS τ ρ)) : CallY P ρ f (cutP rs k τ) := factS_ok fun args m nx pc hs => cutT_yl hr hk hs
theorem rN_ok {ρ : Rho} : RulesOk ρ rN := ⟨fun _ _ _ h => (by cases h), fun _ _ _ h => (by cases h)⟩
theorem d1 {ρ : Rho} (i : Nat) : denS ρ [.a i] = ρ.s i := by simp [denS, Pc.den]
theorem lv_l {ρ : Rho} (i : Nat) : (lv (4 * i + 1)).den ρ = ((ρ.s i).length : Int) := by simp only [lv, Lin.den, dts, Rho.at_l]; omega
theorem lv_v {ρ : Rho} (i : Nat) : (lv (2 * i)).den ρ = ρ.v i := by simp only [lv, Lin.den, dts, Rho.at_v]; omega
def AllS (ρ : Rho) : List (PC × Str × Str) → Prop
  | [] => True
  | (g, x, y) :: l => (Sat ρ g → denS ρ x = denS ρ y) ∧ AllS ρ l
def AllL (ρ : Rho) : List (PC × Lin × Lin) → Prop
  | [] => True
  | (g, x, y) :: l => (Sat ρ g → x.den ρ = y.den ρ) ∧ AllL ρ l
theorem allSS_ok {ρ : Rho} : ∀ {l : List (PC × Str × Str)}, AllS ρ l → ∀ g x y, (g, x, y) ∈ l → Sat ρ g → denS ρ x = denS ρ y
  | [], _, g, x, y, h => by cases h
  | (g, x, y) :: l, hl, g', x', y', h => by
    rcases List.mem_cons.1 h with h | h
    · cases h; exact hl.1
    · exact allSS_ok hl.2 g' x' y' h
theorem allLL_ok {ρ : Rho} : ∀ {l : List (PC × Lin × Lin)}, AllL ρ l → ∀ g x y, (g, x, y) ∈ l → Sat ρ g → x.den ρ = y.den ρ
  | [], _, g, x, y, h => by cases h
  | (g, x, y) :: l, hl, g', x', y', h => by
    rcases List.mem_cons.1 h with h | h
    · cases h; exact hl.1
    · exact allLL_ok hl.2 g' x' y' h
theorem rules_ok {ρ : Rho} {rs : Rules} (h1 : AllS ρ rs.1) (h2 : AllL ρ rs.2) : RulesOk ρ rs := ⟨allSS_ok h1, allLL_ok h2⟩
theorem le'_den {ρ : Rho} (e : Lin) (n : Nat) : (le' e n).den ρ = n - e.den ρ := by unfold le'; rw [sub_den, const_den]; rfl
noncomputable def go (sm : SumT) (f : Nat) : SumF := callBy Tryz.prog sm (ev Tryz.prog sm 1000000) f
end X
end Go.Proofs.YtebfahobllghnaaGreatDoor
