/-
  TopEdits: PnU.
-/
import Derived.Test.YtebfahobllghnaaGreatDoorEdB1
import Derived.Test.YtebfahobllghnaaGreatDoorEdB8
set_option linter.unusedSimpArgs false
set_option linter.unusedVariables false
namespace Go.Proofs.YtebfahobllghnaaGreatDoor
namespace X
open Go.RowKit B
theorem fn_ins : Tryz.prog.funcs[260]? = some Tryz.f260 := by kernel_rfl
theorem fn_order : Tryz.prog.funcs[87]? = some Tryz.f87 := by kernel_rfl
theorem join_ins : Tryz.f260.body = some (mkX cIns [sortTrig]).1.code := by kernel_rfl
theorem join_order (n : Nat) : Tryz.f87.body = some (mkX cOrder [joinTrig n]).1.code := by kernel_rfl
section
variable {ρ : Rho} {xs : List Se}
theorem getD_in {L : Int} {l : List Se} (h : ∀ y ∈ l, InE L y) (hL : 0 ≤ L) (k : Nat) : InE L (l.getD k z0) := by
  by_cases hk : k < l.length
  · exact h _ (getD_mem hk)
  · rw [List.getD_eq_getElem?_getD, List.getElem?_eq_none (by omega)]
    exact ⟨by decide, by show max (0 : Int) 0 ≤ L; omega⟩
theorem grp_in {L : Int} (hL : 0 ≤ L) {S : List Se} (h : ∀ y ∈ S, InE L y) : ∀ i, InE L (grp S i).cur ∧ ∀ y ∈ (grp S i).cl, InE L y
  | 0 => ⟨getD_in h hL 0, fun y hy => by cases hy⟩
  | i + 1 => by
    obtain ⟨h1, h2⟩ := grp_in hL h i
    have hx := getD_in h hL (i + 1)
    show InE L (stepG (grp S i) (S.getD (i + 1) z0)).cur ∧ ∀ y ∈ (stepG (grp S i) (S.getD (i + 1) z0)).cl, InE L y
    unfold stepG
    split
    · refine ⟨⟨by show 0 ≤ fE (mergE _ _); rw [mergE_f]; exact h1.1, ?_⟩, h2⟩
      show tE (mergE _ _) ≤ L
      rw [mergE_t]
      have := h1.2
      have := hx.2
      omega
    · refine ⟨hx, fun y hy => ?_⟩
      rcases List.mem_append.1 hy with hy | hy
      · exact h2 y hy
      · have : y = (grp S i).cur := by simpa using hy
        rw [this]; exact h1
theorem stg_in {L : Int} (hL : 0 ≤ L) (h : ∀ y ∈ xs, InE L y) : ∀ s, ∀ y ∈ stg xs s, InE L y
  | 0, y, hy => by
    have : y = xs.getD 0 z0 := by simpa [stg] using hy
    rw [this]; exact getD_in h hL 0
  | s + 1, y, hy => by
    rcases insE_mem.1 hy with rfl | hy
    · exact getD_in h hL (s + 1)
    · exact stg_in hL h s y hy
theorem el_bnd {L : Int} (hL : 0 ≤ L) (h : ∀ y ∈ xs, InE L y) (e : Nat) : InE L (elF xs e) := by
  have hS := stg_in hL h (xs.length - 1)
  unfold elF
  split
  · exact getD_in h hL e
  · split
    · exact getD_in (stg_in hL h _) hL _
    · split
      · exact (grp_in hL hS _).1
      · refine getD_in (fun y hy => ?_) hL _
        unfold outG at hy
        rcases List.mem_append.1 hy with hy | hy
        · exact (grp_in hL hS _).2 y hy
        · have : y = (grp (srt xs) (xs.length - 1)).cur := by simpa using hy
          rw [this]; exact (grp_in hL hS _).1
theorem NormR.bnd (h : NormR ρ xs) (e : Nat) : 0 ≤ fE (elF xs e) ∧ tE (elF xs e) ≤ 1000 := el_bnd (by omega) (fun y hy => h.b y hy) e
theorem smN2_ok (h : NormR ρ xs) : SumOk Tryz.prog ρ smN2 := withF_ok (smN1_ok h) (cmpS_ok h fun e _ => h.bnd e)
theorem sortTrig_ok (h : NormR ρ xs) : Tr2Ok ρ sortTrig := by
  constructor
  · intro s m nx pc c T Ts hi ht
    unfold sortTrig at ht
    split at ht <;> first | (cases ht; done) | skip
    split at ht <;> first | (cases ht; done) | skip
    split at ht <;> first | (cases ht; done) | skip
    split at ht <;> cases ht
  · intro s m nx pc rs fr pc0 T Is Fs hi ht
    unfold sortTrig at ht
    split at ht <;> first | (cases ht; done) | skip
    split at ht <;> first | (cases ht; done) | skip
    rename_i hc
    simp only [Bool.and_eq_true, Nat.ble_eq] at hc
    have h6 := hc.2
    split at ht <;> first | (cases ht; done) | skip
    split at ht <;> first | (cases ht; done) | skip
    rename_i heq
    cases ht
    have key : ∀ x ∈ (T, rs, fr) :: Is, RulesOk ρ x.2.1 ∧ FrOk ρ x.2.2 := fun x hx => by
      rw [← heq] at hx
      obtain ⟨i, hi, rfl⟩ := mem_mapL.1 hx
      have hi := mem_upto.1 hi
      have : i ≤ 6 := by
        have h1 := hi.2
        rw [Nat.pred_eq_sub_one] at h1
        omega
      exact ⟨h.sort_ok hi.1 this, h.sortFr_ok this⟩
    have k0 := key (T, rs, fr) List.mem_cons_self
    exact ⟨k0.1, k0.2, fun x hx => key x (List.mem_cons_of_mem _ hx)⟩
theorem joinTrig_ok (h : NormR ρ xs) : Tr2Ok ρ (joinTrig xs.length) := by
  constructor
  · intro s m nx pc c T Ts hi ht
    unfold joinTrig at ht
    split at ht <;> first | (cases ht; done) | skip
    split at ht <;> first | (cases ht; done) | skip
    split at ht <;> first | (cases ht; done) | skip
    split at ht <;> cases ht
  · intro s m nx pc rs fr pc0 T Is Fs hi ht
    unfold joinTrig at ht
    split at ht <;> first | (cases ht; done) | skip
    split at ht <;> first | (cases ht; done) | skip
    rename_i hc
    simp only [Bool.and_eq_true, Nat.beq_eq] at hc
    obtain ⟨hn, -⟩ := hc
    subst hn
    split at ht <;> first | (cases ht; done) | skip
    split at ht <;> first | (cases ht; done) | skip
    rename_i heq
    cases ht
    have key : ∀ x ∈ (T, rs, fr) :: Is, RulesOk ρ x.2.1 ∧ FrOk ρ x.2.2 := fun x hx => by
      rw [← heq] at hx
      obtain ⟨i, hi, hx⟩ := mem_catL.1 hx
      obtain ⟨g, hg, rfl⟩ := mem_mapL.1 hx
      have hi := mem_upto.1 hi
      have hi2 := hi.2
      rw [Nat.pred_eq_sub_one] at hi2
      exact ⟨h.join_ok hi.1 (by omega), h.joinFr_ok hi.1 (by omega)⟩
    have k0 := key (T, rs, fr) List.mem_cons_self
    exact ⟨k0.1, k0.2, fun x hx => key x (List.mem_cons_of_mem _ hx)⟩
theorem smN4_ok (h : NormR ρ xs) : SumOk Tryz.prog ρ (smN4 xs.length) := by
  have h3 : ∀ ρ', Agree ρ ρ' → SumOk Tryz.prog ρ' smN3 := fun ρ' a => withF_ok (smN2_ok (h.agree a)) (callX_ok mixP (fun ρ2 a2 => smN2_ok ((h.agree a).agree a2)) fn_ins join_ins fun t ht => by
    have : t = sortTrig := by simpa using ht
    rw [this]; exact sortTrig_ok (h.agree a))
  exact withF_ok (h3 ρ Agree.refl) (callX_ok mixP h3 fn_order (join_order _) fun t ht => by
    have : t = joinTrig xs.length := by simpa using ht
    rw [this]; exact joinTrig_ok h)
theorem normK_all : ∀ n, 1 ≤ n → n ≤ 6 → normK n = true
  | 1, _, _ => norm_1
  | 2, _, _ => norm_2
  | 3, _, _ => norm_3
  | 4, _, _ => norm_4
  | 5, _, _ => norm_5
  | 6, _, _ => norm_6
  | n + 7, _, h => absurd h (by omega)
theorem NormR.endRs_ok (h : NormR ρ xs) {g : Nat} (hg : 0 < g) : RulesOk ρ (endRs xs.length g) := ⟨fun g x y hm => (by cases hm), fun gd u v hm hs => by
  have n1 := h.n1
  have n6 := h.n6
  obtain ⟨k, rfl⟩ : ∃ k, g = k + 1 := ⟨g - 1, by omega⟩
  have hm : (gd, u, v) ∈ (match xs.length with
    | 1 => eqE [] (dId 0) 0
    | n => eqE (is (gV n) (k + 1)) (dId k) (cId n)) := hm
  split at hm
  · rename_i h1
    refine h.eqE_ok (show 96 + 0 < 110 by omega) (by omega) (fun _ => ?_) gd u v hm hs
    show elF xs (dId 0) = _
    rw [el_d, el_in (by omega), h1]
    show (outG (srt xs) 0).getD 0 z0 = _
    unfold srt
    rw [h1]
    rfl
  · have hk : k < 14 ∨ 14 ≤ k := by omega
    by_cases hk : k < 14
    · refine h.eqE_ok (show 96 + k < 110 by omega) (show 80 + xs.length < 110 by omega) (fun q => ?_) gd u v hm hs
      exact (h.end_ok q).2
    · exfalso
      simp only [eqE, List.mem_cons, Prod.mk.injEq, List.not_mem_nil, or_false] at hm
      have hgd : gd = is (gV xs.length) (k + 1) := by rcases hm with hm | hm <;> exact hm.1
      rw [hgd] at hs
      have e1 := (h.end_ok hs).1
      have e2 := (grp_len (srt xs) (xs.length - 1))
      unfold normE outG at e1
      rw [List.length_append] at e1
      simp at e1
      omega⟩
theorem NormR.normP_ok (h : NormR ρ xs) (hL : ∀ x ∈ xs, tE x ≤ ((ρ.s 6).length : Int)) : Sat ρ (normP xs.length) := by
  have n1 := h.n1
  have n6 := h.n6
  have l6 : (lv 25).den ρ = ((ρ.s 6).length : Int) := by have : ρ.at 25 = ((ρ.s 6).length : Int) := ρ.at_l 6; simp only [lv, Lin.den, dts, this]; omega
  refine sat_appL.2 ⟨(h.gD (i := 0) (k := 1) (by omega)).2 rfl, fun e he => ?_⟩
  obtain ⟨k, hk, he⟩ := mem_catL.1 he
  have hk := (mem_upto.1 hk).2
  have hin : elF xs k = xs.getD k z0 := el_in (by omega)
  have hmem : xs.getD k z0 ∈ xs := getD_mem (by omega)
  have b := h.b _ hmem
  have b2 := hL _ hmem
  have f := fE_le (xs.getD k z0)
  simp only [inP, List.mem_cons, List.not_mem_nil, or_false] at he
  rcases he with rfl | rfl | rfl
  · rw [h.fD (by omega), hin]; exact b.1
  · rw [ge_den, l6, h.tD (by omega), hin]; omega
  · rw [ge_den, h.tD (by omega), h.fD (by omega), hin]; omega
theorem NormR.call (h : NormR ρ xs) (hL : ∀ x ∈ xs, tE x ≤ ((ρ.s 6).length : Int)) {pc : PC} (hs : Sat ρ pc) : CallR Tryz.prog ρ 51 [xv 25, .sl 0 0 xs.length (.q 2)] (mkU [(0, .ce 57 (selsC (upto 0 xs.length)) false)] .lf) 1 ⟨normV (normE xs).length, mkU (normL xs.length (normE xs).length) .lf, 700, [] ++ pc⟩ := by
  have n1 := h.n1
  have n6 := h.n6
  have hk := normK_all xs.length n1 n6
  unfold normK at hk
  obtain ⟨hk, hT⟩ := mkK_told hk
  obtain ⟨r, q, he, _⟩ := callBy_ok mixP (smN4_ok h) 1000000 51 [xv 25, .sl 0 0 xs.length (.q 2)] _ 1 (normP xs.length) (h.normP_ok hL) (fun r => normEnd xs.length r.v r.m r.nx r.pc) hk
  unfold normEnd at he
  split at he
  · rename_i t g hv
    simp only [Bool.and_eq_true, Nat.blt_eq] at he
    obtain ⟨⟨e1, e2⟩, e3⟩ := he
    have hg := allP_ok q.pc e2
    obtain ⟨k, rfl⟩ : ∃ k, g = k + 1 := ⟨g - 1, by omega⟩
    have hlen := (h.end_ok hg).1
    rw [hlen]
    exact q.tell (h.endRs_ok e1) hs e3
  · cases he
end
end X
end Go.Proofs.YtebfahobllghnaaGreatDoor
