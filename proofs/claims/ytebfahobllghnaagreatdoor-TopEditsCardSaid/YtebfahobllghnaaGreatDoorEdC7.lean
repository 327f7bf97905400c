/-
  TopEdits: RwD, RwE.
-/
import Derived.Test.YtebfahobllghnaaGreatDoorEdC6
set_option linter.unusedSimpArgs false
set_option linter.unusedVariables false
namespace Go.Proofs.YtebfahobllghnaaGreatDoor
namespace X
open Go.RowKit B
set_option maxRecDepth 1000000
def ogB (g : Nat) : Blk := .ce 57 (ogC g) false
def ogV (t g : Nat) : SV := .sl t 0 g (.q 2)
def kClO (g : Nat) : Known := ⟨[ogV 0 g], [(0, ogB g)], 1, [], ogV 1 g, [(0, ogB g), (1, ogB g)], 100, []⟩
def kEqO (g : Nat) : Known := ⟨[ogV 0 g, ogV 1 g], [(0, ogB g), (1, ogB g)], 2, [], .b true, [(0, ogB g), (1, ogB g)], 300, []⟩
noncomputable def clO (g : Nat) : Bool := knK smZ 44 rN (kClO g)
noncomputable def eqO (g : Nat) : Bool := knK smZ 28 rN (kEqO g)
noncomputable def lsO (g : Nat) : Bool := knK smZ 10 rN (kEqO g)
theorem clO_1 : clO 1 = true := by kernel_rfl
theorem clO_2 : clO 2 = true := by kernel_rfl
theorem clO_3 : clO 3 = true := by kernel_rfl
theorem clO_4 : clO 4 = true := by kernel_rfl
theorem clO_5 : clO 5 = true := by kernel_rfl
theorem clO_6 : clO 6 = true := by kernel_rfl
theorem eqO_1 : eqO 1 = true := by kernel_rfl
theorem eqO_2 : eqO 2 = true := by kernel_rfl
theorem eqO_3 : eqO 3 = true := by kernel_rfl
theorem eqO_4 : eqO 4 = true := by kernel_rfl
theorem eqO_5 : eqO 5 = true := by kernel_rfl
theorem eqO_6 : eqO 6 = true := by kernel_rfl
theorem lsO_1 : lsO 1 = true := by kernel_rfl
theorem lsO_2 : lsO 2 = true := by kernel_rfl
theorem lsO_3 : lsO 3 = true := by kernel_rfl
theorem lsO_4 : lsO 4 = true := by kernel_rfl
theorem lsO_5 : lsO 5 = true := by kernel_rfl
theorem lsO_6 : lsO 6 = true := by kernel_rfl
end X
end Go.Proofs.YtebfahobllghnaaGreatDoor
namespace Go.Proofs.YtebfahobllghnaaGreatDoor
namespace X
open Go.RowKit B
set_option maxRecDepth 1000000
def kClR (n b : Nat) : Known := ⟨[rV 0 n], [(0, rB n b)], 1, [], rV 1 n, [(0, rB n b), (1, rB n b)], 100, []⟩
def kEqR (n b n' b' : Nat) : Known := ⟨[rV 0 n, rV 1 n'], [(0, rB n b), (1, rB n' b')], 2, [], .b true, [(0, rB n b), (1, rB n' b')], 300, []⟩
def kNmR (v : SV) (n b n' b' : Nat) : Known := ⟨[v, rV 0 n], [(0, rB n b)], 1, [], .tu [rV 1 n', .i .i64 (.ofNat 0)], [(0, rB n b), (1, rB n' b')], 700, []⟩
def edR (u v w : SV) : Blk := .ce 35 [u, v, w] true
def kMvR (n b n' b' : Nat) (u v w : SV) : Known := ⟨[rV 0 n, .sl 1 0 1 (.k 1)], [(0, rB n b), (1, edR u v w)], 2, [], rV 2 n', [(0, rB n b), (1, edR u v w), (2, rB n' b')], 3000, []⟩
theorem sixR {p : Nat → Prop} (h1 : p 1) (h2 : p 2) (h3 : p 3) (h4 : p 4) (h5 : p 5) (h6 : p 6) : ∀ g, 1 ≤ g → g ≤ 6 → p g
  | 1, _, _ => h1
  | 2, _, _ => h2
  | 3, _, _ => h3
  | 4, _, _ => h4
  | 5, _, _ => h5
  | 6, _, _ => h6
  | n + 7, _, h => absurd h (by omega)
def rhoO (xs : List Se) : Rho := ⟨fun j => cellN xs (j - 4600), fun _ => []⟩
section
variable {ρ : Rho} {n b n' b' : Nat} {xs : List Se}
theorem og_eq (h : RowIs ρ n b xs) : EqB ρ (rhoO xs) (rB n b) (ogB xs.length) := h.eqc (a := fun j => lv (9200 + 4 * j)) (k := fun j => lv (9202 + 4 * j)) fun j hj => by
  have e1 : (lv (2 * (4600 + 2 * j))).den (rhoO xs) = cellN xs (4600 + 2 * j - 4600) := lv_v _
  have e2 : (lv (2 * (4600 + (2 * j + 1)))).den (rhoO xs) = cellN xs (4600 + (2 * j + 1) - 4600) := lv_v _
  rw [show 4600 + 2 * j - 4600 = 2 * j by omega] at e1
  rw [show 4600 + (2 * j + 1) - 4600 = 2 * j + 1 by omega] at e2
  unfold cellN at e1 e2
  rw [if_pos (by omega), show 2 * j / 2 = j by omega] at e1
  rw [if_neg (by omega), show (2 * j + 1) / 2 = j by omega] at e2
  exact ⟨by rw [← e1, show 9200 + 4 * j = 2 * (4600 + 2 * j) by omega], by rw [← e2, show 9202 + 4 * j = 2 * (4600 + (2 * j + 1)) by omega]⟩
theorem kClR_ok (h : RowIs ρ n b xs) (h1 : 1 ≤ xs.length) (h6 : xs.length ≤ 6) : KnownOk Tryz.prog 44 (kClR n b) ρ := by
  have K : KnownOk Tryz.prog 44 (kClO xs.length) (rhoO xs) := known_of mixP (smZ_okN _ _) rN_ok (sixR (p := fun g => clO g = true) clO_1 clO_2 clO_3 clO_4 clO_5 clO_6 _ h1 h6)
  refine K.ret sat_nil (fun θ => ?_) ⟨rfl, og_eq h, trivial⟩ (fun θ => (h.vd 1 θ).symm) ⟨rfl, (og_eq h).symm, rfl, (og_eq h).symm, trivial⟩ rfl rfl sat_nil rfl rfl rfl rfl
  show dens ρ θ [rV 0 n] = dens (rhoO xs) θ [ogV 0 xs.length]
  simp only [dens, h.vd (ρ' := rhoO xs) 0 θ, ogV]
theorem eqR_ok {f : Nat} (h : RowIs ρ n b xs) (h' : RowIs ρ n' b' xs) (K : KnownOk Tryz.prog f (kEqO xs.length) (rhoO xs)) : KnownOk Tryz.prog f (kEqR n b n' b') ρ := by
  refine K.ret sat_nil (fun θ => ?_) ⟨rfl, og_eq h, rfl, og_eq h', trivial⟩ (fun θ => rfl) ⟨rfl, (og_eq h).symm, rfl, (og_eq h').symm, trivial⟩ rfl rfl sat_nil rfl rfl rfl rfl
  show dens ρ θ [rV 0 n, rV 1 n'] = dens (rhoO xs) θ [ogV 0 xs.length, ogV 1 xs.length]
  simp only [dens, h.vd (ρ' := rhoO xs) 0 θ, h'.vd (ρ' := rhoO xs) 1 θ, ogV]
theorem kEqR_ok (h : RowIs ρ n b xs) (h' : RowIs ρ n' b' xs) (h1 : 1 ≤ xs.length) (h6 : xs.length ≤ 6) : KnownOk Tryz.prog 28 (kEqR n b n' b') ρ :=
  eqR_ok h h' (known_of mixP (smZ_okN _ _) rN_ok (sixR (p := fun g => eqO g = true) eqO_1 eqO_2 eqO_3 eqO_4 eqO_5 eqO_6 _ h1 h6))
theorem kLsR_ok (h : RowIs ρ n b xs) (h' : RowIs ρ n' b' xs) (h1 : 1 ≤ xs.length) (h6 : xs.length ≤ 6) : KnownOk Tryz.prog 10 (kEqR n b n' b') ρ :=
  eqR_ok h h' (known_of mixP (smZ_okN _ _) rN_ok (sixR (p := fun g => lsO g = true) lsO_1 lsO_2 lsO_3 lsO_4 lsO_5 lsO_6 _ h1 h6))
theorem elv {ρ1 : Rho} {ys : List Se} (hN : NormR ρ1 ys) {e : Nat} (he : e < 110) : (lv (eA e)).den ρ1 = (elF ys e).1 ∧ (lv (eH e)).den ρ1 = (elF ys e).2 := by
  rw [show eA e = 2 * (1000 + 4 * e) by show 2000 + 8 * e = _; omega, show eH e = 2 * (1001 + 4 * e) by show 2002 + 8 * e = _; omega, lv_v, lv_v]
  exact ⟨hN.a e he, hN.h e he⟩
theorem selsC_c : ∀ l : List Nat, selsC l = catL (fun j => [xl (lv (eA j)), xl (lv (eH j))]) l
  | [] => rfl
  | j :: l => by simp only [selsC, catL, appL, selsC_c l]; rfl
theorem in_eq {ρ1 : Rho} (h : RowIs ρ n b xs) (hN : NormR ρ1 xs) : EqB ρ ρ1 (rB n b) (.ce 57 (selsC (upto 0 xs.length)) false) := by
  rw [selsC_c]
  have n6 := hN.n6
  exact h.eqc fun j hj => by
    have := elv hN (e := j) (by omega)
    rw [el_in (by omega)] at this
    exact this
theorem out_eq {ρ1 : Rho} {ys : List Se} (h : RowIs ρ n b (normE ys)) (hN : NormR ρ1 ys) (hl : (normE ys).length ≤ 6) : EqB ρ ρ1 (rB n b) (.ce 57 (selsC (mapL dId (upto 0 (normE ys).length))) false) := by
  rw [selsC_cat]
  refine h.eqc fun j hj => ?_
  have := elv hN (e := dId j) (by show 96 + j < 110; omega)
  rw [el_d] at this
  exact this
theorem normE_len {L : Int} (n1 : 1 ≤ xs.length) (hL : ∀ x ∈ xs, InE L x) (h0 : 0 ≤ L) (hk : L ≤ 1000) : 1 ≤ (normE xs).length ∧ (normE xs).length ≤ xs.length := (norm_in n1 hL h0 hk).2.2
theorem kNmR_ok {L : Nat} {v : SV} (h : RowIs ρ n b xs) (h' : RowIs ρ n' b' (normE xs)) (h1 : 1 ≤ xs.length) (h6 : xs.length ≤ 6) (hk : L ≤ 1000) (hL : ∀ x ∈ xs, InE L x) (hv : ∀ θ, den ρ θ v = some (.int .i64 L)) : KnownOk Tryz.prog 51 (kNmR v n b n' b') ρ := by
  let ρ1 : Rho := ⟨rhoV xs fun _ => 0, fun i => if i = 6 then List.replicate L 0 else []⟩
  have hN : NormR ρ1 xs := rhoV_ok h1 h6 fun x hx => ⟨(hL x hx).1, by have := (hL x hx).2; omega⟩
  have hlen := normE_len h1 hL (by omega) (by omega)
  have l6 : ((ρ1.s 6).length : Int) = L := by show ((List.replicate L (0 : UInt8)).length : Int) = L; rw [List.length_replicate]
  have K : KnownOk Tryz.prog 51 ⟨[xv 25, .sl 0 0 xs.length (.q 2)], [(0, .ce 57 (selsC (upto 0 xs.length)) false)], 1, [], normV (normE xs).length, normL xs.length (normE xs).length, 700, []⟩ ρ1 := fun _ => hN.call (fun x hx => by rw [l6]; exact (hL x hx).2) sat_nil
  refine K.ret sat_nil (fun θ => ?_) ⟨rfl, in_eq h hN, trivial⟩ (fun θ => ?_) ⟨rfl, (in_eq h hN).symm, rfl, (out_eq h' hN (by omega)).symm, trivial⟩ rfl rfl sat_nil rfl rfl rfl rfl
  · have e : den ρ1 θ (xv 25) = some (.int .i64 L) := by
      show some (Value.int .i64 ((lv 25).den ρ1)) = _
      have : ρ1.at 25 = ((ρ1.s 6).length : Int) := ρ1.at_l 6
      simp only [lv, Lin.den, dts, this, l6]
      congr 2; omega
    show dens ρ θ [v, rV 0 n] = dens ρ1 θ [xv 25, .sl 0 0 xs.length (.q 2)]
    simp only [dens, hv, h.vd (ρ' := ρ1) 0 θ, e]
  · show den ρ1 θ (.tu [.sl 1 0 (normE xs).length (.q 2), .i .i64 (.ofNat 0)]) = den ρ θ (.tu [rV 1 n', .i .i64 (.ofNat 0)])
    have e := h'.vd (ρ' := ρ1) 1 θ
    simp only [den, dens] at e ⊢
    rw [← e]
def mwF (x f t n : Int) : Int := if x < f then x else if t < x then x + n - (t - f) else f + n
theorem kMw_ok (hv : ρ.v 4503 = mwF (ρ.v 4500) (ρ.v 4501) (ρ.v 4502) ((ρ.s 6).length : Int)) : KnownOk Tryz.prog 178 kMw ρ := by
  have n0 : (lv 9000).den ρ = ρ.v 4500 := lv_v 4500
  have n1 : (lv 9002).den ρ = ρ.v 4501 := lv_v 4501
  have n2 : (lv 9004).den ρ = ρ.v 4502 := lv_v 4502
  have n3 : (lv 9006).den ρ = ρ.v 4503 := lv_v 4503
  have a0 : ρ.at 9000 = ρ.v 4500 := ρ.at_v 4500
  have a1 : ρ.at 9002 = ρ.v 4501 := ρ.at_v 4501
  have a2 : ρ.at 9004 = ρ.v 4502 := ρ.at_v 4502
  have l6 : ρ.at 25 = ((ρ.s 6).length : Int) := ρ.at_l 6
  refine known_of mixP (smZ_okN _ ρ) (rules_ok (rs := rMw) trivial ⟨fun hg => ?_, fun hg => ?_, fun hg => ?_, trivial⟩) mw_k
  · have h1 := hg (gt (lv 9002) (lv 9000)) (by simp [mwP1])
    rw [gt_den, n0, n1] at h1
    rw [n3, n0, hv]; unfold mwF
    rw [if_pos (by omega)]
  · have h1 := hg (ge (lv 9004) (lv 9002)) (by simp [mwP2])
    have h2 := hg (gt (lv 9000) (lv 9004)) (by simp [mwP2])
    rw [ge_den, n1, n2] at h1
    rw [gt_den, n0, n2] at h2
    rw [n3, hv]; unfold mwF
    rw [if_neg (by omega), if_pos (by omega)]
    simp only [mw2, Lin.den, dts, a0, a1, a2, l6]
    omega
  · have h1 := hg (ge (lv 9000) (lv 9002)) (by simp [mwP3])
    have h2 := hg (ge (lv 9004) (lv 9000)) (by simp [mwP3])
    rw [ge_den, n0, n1] at h1
    rw [ge_den, n0, n2] at h2
    rw [n3, hv]; unfold mwF
    rw [if_neg (by omega), if_neg (by omega)]
    simp only [mw3, Lin.den, dts, a1, l6]
    omega
structure MowR (g : Nat) (ρ : Rho) : Prop where
  a : ∀ j, j < g → ρ.v (1000 + 4 * j) = mwF (ρ.v (4600 + 2 * j)) (ρ.v 4501) (ρ.v 4502) ((ρ.s 5).length : Int)
  h : ∀ j, j < g → ρ.v (1001 + 4 * j) = mwF (ρ.v (4601 + 2 * j)) (ρ.v 4501) (ρ.v 4502) ((ρ.s 5).length : Int)
theorem mwD_ok {g : Nat} (hm : MowR g ρ) : CallY Tryz.prog ρ 178 (mwD g) := fun args m nx pc hs => by
  unfold mwD
  split
  · rename_i i b c
    split
    · rename_i hc
      simp only [Bool.and_eq_true, Nat.ble_eq, Nat.blt_eq, Nat.beq_eq] at hc
      obtain ⟨⟨c1, c2⟩, c3⟩ := hc
      have c3 : i % 2 = 0 := c3
      have c2 : i < 9200 + 4 * g := c2
      split
      · rename_i h4
        have h4 : i % 4 = 0 := Nat.eq_of_beq_eq_true h4
        obtain ⟨j, rfl⟩ : ∃ j, i = 9200 + 4 * j := ⟨(i - 9200) / 4, by omega⟩
        refine cutP_ok rN_ok (kMw_ok ?_) _ m nx pc hs
        have e1 : eA (Nat.div (Nat.sub (9200 + 4 * j) 9200) 4) = 2 * (1000 + 4 * j) := by
          show 2000 + 8 * ((9200 + 4 * j - 9200) / 4) = _; omega
        show (lv (eA (Nat.div (Nat.sub (9200 + 4 * j) 9200) 4))).den ρ = mwF ((lv (9200 + 4 * j)).den ρ) ((lv (2 * 4501)).den ρ) ((lv (2 * 4502)).den ρ) ((denS ρ [.a 5]).length : Int)
        rw [e1, show 9200 + 4 * j = 2 * (4600 + 2 * j) by omega, lv_v, lv_v, lv_v, lv_v, d1]
        exact hm.a j (by omega)
      · rename_i h4
        have h4 : i % 4 ≠ 0 := fun e => by rw [show Nat.beq (Nat.mod i 4) 0 = true from by rw [show Nat.mod i 4 = 0 from e]; rfl] at h4; cases h4
        obtain ⟨j, rfl⟩ : ∃ j, i = 9202 + 4 * j := ⟨(i - 9202) / 4, by omega⟩
        refine cutP_ok rN_ok (kMw_ok ?_) _ m nx pc hs
        have e1 : eH (Nat.div (Nat.sub (9202 + 4 * j) 9200) 4) = 2 * (1001 + 4 * j) := by
          show 2002 + 8 * ((9202 + 4 * j - 9200) / 4) = _; omega
        show (lv (eH (Nat.div (Nat.sub (9202 + 4 * j) 9200) 4))).den ρ = mwF ((lv (9202 + 4 * j)).den ρ) ((lv (2 * 4501)).den ρ) ((lv (2 * 4502)).den ρ) ((denS ρ [.a 5]).length : Int)
        rw [e1, show 9202 + 4 * j = 2 * (4601 + 2 * j) by omega, lv_v, lv_v, lv_v, lv_v, d1]
        exact hm.h j (by omega)
    · exact Yl.no
  · exact Yl.no
def movKn (n g : Nat) : Known := ⟨[.sl 0 0 n (.q 2), .sl 1 0 1 (.k 1)], movL n, 2, [], .sl 2 0 g (.q 2), movR n g, 3000, []⟩
theorem kMov_ok {ys : List Se} (hN : NormR ρ ys) (hm : MowR ys.length ρ) (hL : ∀ y ∈ ys, tE y ≤ ((ρ.s 6).length : Int)) (hq : Sat ρ (movQ ys.length)) : KnownOk Tryz.prog 118 (movKn ys.length (normE ys).length) ρ := fun _ => by
  have sum : SumOk Tryz.prog ρ (smMw ys.length) := withF_ok (smN4_ok hN) (mwD_ok hm)
  obtain ⟨hk, _⟩ := mkK_told (sixR (p := fun g => movK g = true) mov_1 mov_2 mov_3 mov_4 mov_5 mov_6 ys.length hN.n1 hN.n6)
  obtain ⟨r, q, he, _⟩ := callBy_ok mixP sum 1000000 118 _ _ 2 (appL (movQ ys.length) (normP ys.length)) (sat_appL.2 ⟨hq, hN.normP_ok hL⟩) (fun r => movEnd ys.length r.v r.m r.nx r.pc) hk
  unfold movEnd at he
  split at he
  · rename_i t g hv
    simp only [Bool.and_eq_true, Nat.blt_eq] at he
    obtain ⟨⟨e1, e2⟩, e3⟩ := he
    have hg := allP_ok q.pc e2
    obtain ⟨k, rfl⟩ : ∃ k, g = k + 1 := ⟨g - 1, by omega⟩
    have hlen := (hN.end_ok hg).1
    rw [hlen]
    exact q.tell (pc := []) (hN.endRs_ok e1) sat_nil e3
  · cases he
def mwS (f t n : Int) (x : Se) : Se := (mwF x.1 f t n, mwF x.2 f t n)
def rho3 (xs : List Se) (f t : Int) (l : List UInt8) : Rho := ⟨rhoV (xs.map (mwS f t l.length)) fun j => if j = 4501 then f else if j = 4502 then t else cellN xs (j - 4600), fun i => if i = 5 then l else if i = 6 then List.replicate 1000 0 else []⟩
theorem mwF_bnd {x f t n : Int} (hx : 0 ≤ x) (hx2 : x ≤ 300) (hf : 0 ≤ f) (ht : f ≤ t) (ht2 : t ≤ 300) (hn : 0 ≤ n) (hn2 : n ≤ 300) : 0 ≤ mwF x f t n ∧ mwF x f t n ≤ 1000 := by
  unfold mwF
  split
  · omega
  · split <;> omega
theorem in_bnd {L : Int} {x : Se} (h : InE L x) : 0 ≤ x.1 ∧ x.1 ≤ L ∧ 0 ≤ x.2 ∧ x.2 ≤ L := by
  obtain ⟨a, b⟩ := h
  unfold fE at a; unfold tE at b
  omega
theorem kMvR_ok {f t : Int} {l : List UInt8} {u v w : SV} (h : RowIs ρ n b xs) (h' : RowIs ρ n' b' (normE (xs.map (mwS f t l.length)))) (h1 : 1 ≤ xs.length) (h6 : xs.length ≤ 6) (hL : ∀ x ∈ xs, InE 300 x) (hf : 0 ≤ f) (ht : f ≤ t) (ht2 : t ≤ 300) (hl : l.length ≤ 300)
    (hu : ∀ θ, den ρ θ u = some (.int .i64 f)) (hv : ∀ θ, den ρ θ v = some (.int .i64 t)) (hw : ∀ θ, den ρ θ w = some (.string (bstr l))) : KnownOk Tryz.prog 118 (kMvR n b n' b' u v w) ρ := by
  have hlen : (xs.map (mwS f t l.length)).length = xs.length := List.length_map _
  have gd : ∀ j, j < xs.length → (xs.map (mwS f t l.length)).getD j z0 = mwS f t l.length (xs.getD j z0) := fun j hj => by
    simp only [List.getD_eq_getElem?_getD, List.getElem?_map, List.getElem?_eq_getElem hj, Option.map_some, Option.getD_some]
  have bnd : ∀ y ∈ xs.map (mwS f t l.length), 0 ≤ fE y ∧ tE y ≤ 1000 := fun y hy => by
    obtain ⟨x, hx, rfl⟩ := List.mem_map.1 hy
    obtain ⟨b1, b2, b3, b4⟩ := in_bnd (hL x hx)
    have c1 := mwF_bnd (n := (l.length : Int)) b1 b2 hf ht ht2 (by omega) (by omega)
    have c2 := mwF_bnd (n := (l.length : Int)) b3 b4 hf ht ht2 (by omega) (by omega)
    show 0 ≤ min (mwF _ _ _ _) (mwF _ _ _ _) ∧ max (mwF _ _ _ _) (mwF _ _ _ _) ≤ 1000
    omega
  have hN : NormR (rho3 xs f t l) (xs.map (mwS f t l.length)) := rhoV_ok (by rw [hlen]; exact h1) (by rw [hlen]; exact h6) bnd
  have vb : ∀ j, 3007 ≤ j → (rho3 xs f t l).v j = if j = 4501 then f else if j = 4502 then t else cellN xs (j - 4600) := fun j hj => by
    unfold rho3
    simp only
    unfold rhoV
    rw [if_neg (by omega), if_neg (by omega)]
  have v1 : (rho3 xs f t l).v 4501 = f := by rw [vb _ (by omega), if_pos rfl]
  have v2 : (rho3 xs f t l).v 4502 = t := by rw [vb _ (by omega), if_neg (by omega), if_pos rfl]
  have vo : ∀ i, (rho3 xs f t l).v (4600 + i) = cellN xs i := fun i => by
    rw [vb _ (by omega), if_neg (by omega), if_neg (by omega), show 4600 + i - 4600 = i by omega]
  have c0 : ∀ j, cellN xs (2 * j) = (xs.getD j z0).1 := fun j => by
    unfold cellN
    rw [if_pos (by omega), show 2 * j / 2 = j by omega]
  have c1 : ∀ j, cellN xs (2 * j + 1) = (xs.getD j z0).2 := fun j => by
    unfold cellN
    rw [if_neg (by omega), show (2 * j + 1) / 2 = j by omega]
  have s5 : (rho3 xs f t l).s 5 = l := rfl
  have hm : MowR (xs.map (mwS f t l.length)).length (rho3 xs f t l) := ⟨fun j hj => by
    rw [hlen] at hj
    rw [hN.a j (by omega), el_in (by omega), gd j hj, v1, v2, vo, c0, s5]; rfl, fun j hj => by
    rw [hlen] at hj
    rw [hN.h j (by omega), el_in (by omega), gd j hj, v1, v2, show 4601 + 2 * j = 4600 + (2 * j + 1) by omega, vo, c1, s5]; rfl⟩
  have hq : Sat (rho3 xs f t l) (movQ xs.length) := by
    have n1 : (rho3 xs f t l).at 9002 = f := ((rho3 xs f t l).at_v 4501).trans v1
    have n2 : (rho3 xs f t l).at 9004 = t := ((rho3 xs f t l).at_v 4502).trans v2
    have l5 : (rho3 xs f t l).at 21 = (l.length : Int) := (rho3 xs f t l).at_l 5
    refine sat_appL.2 ⟨?_, fun e he => ?_⟩
    · refine sat_cons ?_ (sat_cons ?_ (sat_cons ?_ (sat_cons ?_ sat_nil))) <;> simp only [Lin.den, dts, n1, n2, l5] <;> omega
    · obtain ⟨j, hj, he⟩ := mem_catL.1 he
      have hj := (mem_upto.1 hj).2
      obtain ⟨b1, b2, b3, b4⟩ := in_bnd (hL (xs.getD j z0) (getD_mem (by omega)))
      have d1 : (lv (9200 + 4 * j)).den (rho3 xs f t l) = (xs.getD j z0).1 := by
        rw [show 9200 + 4 * j = 2 * (4600 + 2 * j) by omega, lv_v, vo, c0]
      have d2 : (lv (9202 + 4 * j)).den (rho3 xs f t l) = (xs.getD j z0).2 := by
        rw [show 9202 + 4 * j = 2 * (4600 + (2 * j + 1)) by omega, lv_v, vo, c1]
      have le : ∀ (e : Lin) (n : Nat), (le' e n).den (rho3 xs f t l) = n - e.den (rho3 xs f t l) := fun e n => by
        unfold le'; rw [sub_den, const_den]; rfl
      simp only [List.mem_cons, List.not_mem_nil, or_false] at he
      rcases he with rfl | rfl | rfl | rfl
      · show 0 ≤ (lv (9200 + 4 * j)).den _; rw [d1]; omega
      · rw [le]; show 0 ≤ ((300 : Nat) : Int) - (lv (9200 + 4 * j)).den _; rw [d1]; omega
      · show 0 ≤ (lv (9202 + 4 * j)).den _; rw [d2]; omega
      · rw [le]; show 0 ≤ ((300 : Nat) : Int) - (lv (9202 + 4 * j)).den _; rw [d2]; omega
  have hnl := normE_len (L := 1000) (by rw [hlen]; exact h1) (fun y hy => ⟨(bnd y hy).1, (bnd y hy).2⟩) (by omega) (by omega)
  rw [hlen] at hnl
  have K := kMov_ok hN hm (fun x hx => by
    show tE x ≤ ((List.replicate 1000 (0 : UInt8)).length : Int)
    rw [List.length_replicate]
    exact (bnd x hx).2) (by rw [hlen]; exact hq)
  rw [hlen] at K
  have rowO : EqB ρ (rho3 xs f t l) (rB n b) (ogB xs.length) := h.eqc (a := fun j => lv (9200 + 4 * j)) (k := fun j => lv (9202 + 4 * j)) fun j hj => ⟨by
    show (lv (9200 + 4 * j)).den _ = _
    rw [show 9200 + 4 * j = 2 * (4600 + 2 * j) by omega, lv_v, vo, c0], by
    show (lv (9202 + 4 * j)).den _ = _
    rw [show 9202 + 4 * j = 2 * (4600 + (2 * j + 1)) by omega, lv_v, vo, c1]⟩
  have d1 : ∀ θ, den (rho3 xs f t l) θ (xl (lv 9002)) = some (.int .i64 f) := fun θ => by
    show some (Value.int .i64 ((lv (2 * 4501)).den (rho3 xs f t l))) = _
    rw [lv_v, v1]
  have d2 : ∀ θ, den (rho3 xs f t l) θ (xl (lv 9004)) = some (.int .i64 t) := fun θ => by
    show some (Value.int .i64 ((lv (2 * 4502)).den (rho3 xs f t l))) = _
    rw [lv_v, v2]
  have d3 : ∀ θ, den (rho3 xs f t l) θ (.s [.a 5]) = some (.string (bstr l)) := fun θ => by
    show some (Value.string (bstr (denS (rho3 xs f t l) [.a 5]))) = _
    rw [X.d1, s5]
  have edE : EqB ρ (rho3 xs f t l) (edR u v w) (.ce 35 [xl (lv 9002), xl (lv 9004), .s [.a 5]] true) := ⟨rfl, fun θ w' t' => by
    simp only [edR, HoldsB, dens, hu, hv, hw, d1, d2, d3]⟩
  refine K.ret sat_nil (fun θ => ?_) ⟨rfl, rowO, rfl, edE, trivial⟩ (fun θ => (h'.vd 2 θ).symm) ⟨rfl, rowO.symm, rfl, edE.symm, rfl, (out_eq h' hN (by omega)).symm, trivial⟩ rfl rfl sat_nil rfl rfl rfl rfl
  show dens ρ θ [rV 0 n, .sl 1 0 1 (.k 1)] = dens (rho3 xs f t l) θ [.sl 0 0 xs.length (.q 2), .sl 1 0 1 (.k 1)]
  simp only [dens, h.vd (ρ' := rho3 xs f t l) 0 θ]
  rfl
end
end X
end Go.Proofs.YtebfahobllghnaaGreatDoor
