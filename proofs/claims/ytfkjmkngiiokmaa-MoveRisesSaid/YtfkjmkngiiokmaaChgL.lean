/-
  Plain laws of edits, as the statements of chapter 6 ask for them. No program.
-/
import Derived.Test.YtfkjmkngiiokmaaChgW
import Derived.Test.YtfkjmkngiiokmaaBase9
set_option linter.unusedSimpArgs false
set_option linter.unusedVariables false
namespace Go.Proofs.Ytfkjmkngiiokmaa
namespace B
open Srt
theorem eqT_self (s : ByteArray) : eqT s s = true := eqT_iff.2 rfl
theorem facts6 {s : ByteArray} {es L : List Ed} (h : Ap 0 (s.size : Int) L) (hp : es.Perm L) (hs : s.size ≤ 10000) (hz : sizes L ≤ 10000) (hl : es.length ≤ 1000000) :
    mayEd (s.size : Int) es = 0 ∧ applyF s es = tx (appL (bs s) 0 L) ∧ backF s es = backL s L ∧ isort ltE es = L := by
  have hi := isort_ap h hp
  have hm : mayEd (s.size : Int) es = 0 := by
    rw [ap_may h hp (by omega) (by rw [sizes_perm hp]; omega) hl, if_neg]
    have := (grown_bounds h).2
    rw [grown_zero]; omega
  exact ⟨hm, by rw [applyF, if_pos hm, hi], by rw [backF, if_pos hm, hi], hi⟩
theorem grown_facts {s : ByteArray} {E : List Ed} (h : Ap 0 (s.size : Int) E) (hs : s.size ≤ 10000) (hz : sizes E ≤ 10000) (hl : E.length ≤ 1000000) :
    grownW (s.size : Int) E = grown (s.size : Int) E ∧ grown (s.size : Int) E = ((tx (appL (bs s) 0 E)).size : Int) ∧ 0 ≤ grown (s.size : Int) E ∧ grown (s.size : Int) E ≤ 20000 := by
  have h1 := grownW_eq (n := (s.size : Int)) (es := E) (by omega) (fun e he => by have := h.2.1 e he; omega) (by omega) hl
  have h2 := appL_len (s := bs s) (a := 0) (by rw [bs_len]; exact h)
  have h3 := (grown_bounds h).2
  rw [bs_len] at h2
  rw [tx_size, grown_zero] at *
  refine ⟨h1, by omega, by omega, by omega⟩
theorem tx_small {s : ByteArray} {E : List Ed} (h : Ap 0 (s.size : Int) E) : (tx (appL (bs s) 0 E)).size ≤ s.size + (sizes E).toNat := by
  have h2 := appL_len (s := bs s) (a := 0) (by rw [bs_len]; exact h)
  have h3 := (grown_bounds h).2
  have := sizes_nonneg E
  rw [bs_len] at h2
  rw [tx_size]
  omega
theorem sizes_one (e : Ed) : sizes [e] = (e.2.2.size : Int) := by simp [sizes]
theorem single_step {s t : ByteArray} {E : List Ed} {m : Nat} (h : Ap 0 (s.size : Int) E) (hs : s.size ≤ 200) (hz : sizes E ≤ 200) (hm : 0 < m) (hl : m ≤ E.length) (ht : bs t = appL (bs s) 0 (E.drop m)) :
    mayEd (t.size : Int) [nth E ((m : Int) - 1)] = 0 ∧ bs (applyF t [nth E ((m : Int) - 1)]) = appL (bs s) 0 (E.drop (m - 1)) := by
  rw [show (m : Int) - 1 = ((m - 1 : Nat) : Int) by omega]
  have hd := drop_cons (xs := E) (show m - 1 < E.length by omega)
  rw [show m - 1 + 1 = m by omega] at hd
  have ha : Ap 0 (s.size : Int) (E.drop (m - 1)) := ap_drop h
  rw [hd] at ha ⊢
  obtain ⟨h1, h2, h3, h4⟩ := ap_cons.1 ha
  have hn := h4.le
  have hlen : (t.size : Int) = ((appL (bs s) 0 (E.drop m)).length : Int) := by rw [← ht, bs_len]
  have hto : (nth E ((m - 1 : Nat) : Int)).2.1 ≤ (t.size : Int) := by
    rw [hlen, appL_from (Nat.zero_le (nth E ((m - 1 : Nat) : Int)).2.1.toNat) (by rw [bs_len, Int.toNat_of_nonneg (by omega)]; exact h4), List.length_append, seg_len (by rw [bs_len]; omega)]
    omega
  have hap : Ap 0 (t.size : Int) [nth E ((m - 1 : Nat) : Int)] := by
    rw [ap_cons]
    exact ⟨h1, h2, by simp, by rw [ap_nil]; exact hto⟩
  have hsz := sizes_mem (nth_mem (xs := E) (show m - 1 < E.length by omega))
  have hts : t.size ≤ 400 := by
    have h5 := appL_len (s := bs s) (a := 0) (L := E.drop m) (by rw [bs_len]; exact ap_drop h)
    have h6 := (grown_bounds (ap_drop (k := m) h)).2
    have h7 := sizes_append (E.take m) (E.drop m)
    rw [List.take_append_drop] at h7
    have := sizes_nonneg (E.take m)
    rw [bs_len] at h5
    omega
  obtain ⟨k1, k2, _, _⟩ := facts6 hap (List.Perm.refl _) (by omega) (by rw [sizes_one]; omega) (by simp)
  refine ⟨k1, ?_⟩
  rw [k2, bs_tx, ht]
  exact appL_parts (s := bs s) (C := E.drop m) (A := [nth E ((m - 1 : Nat) : Int)]) (a := 0) (by rw [bs_len]; exact ha)
theorem sizes_pc : ∀ (ps : List Pc) (t : List UInt8) (a : Nat), sizes (edOf a ps) ≤ ((sOf (ps.map swap) t).length : Int) := by
  intro ps
  induction ps with
  | nil => intro t a; simp [edOf, sizes]
  | cons p ps ih =>
    intro t a
    have := ih t (a + p.1.length + p.2.1.length)
    rw [edOf, sizes_cons]
    simp only [List.map_cons, sOf, swap, List.length_append, tx_size]
    omega
structure BackOk (s : ByteArray) (E : List Ed) (T : ByteArray) : Prop where
  ap : Ap 0 (T.size : Int) (backL s E)
  sz : sizes (backL s E) ≤ (s.size : Int)
  len : (backL s E).length ≤ E.length
  gaps : (backL s E).Pairwise fun p q => p.2.1 < q.1
  back : appL (bs T) 0 (backL s E) = bs s
  len2 : (backL T (backL s E)).length = (backL s E).length
  ap2 : Ap 0 (s.size : Int) (backL T (backL s E))
  sz2 : sizes (backL T (backL s E)) ≤ (T.size : Int)
  back2 : appL (bs s) 0 (backL T (backL s E)) = bs T
theorem back_facts {s : ByteArray} {E : List Ed} (h : Ap 0 (s.size : Int) E) : BackOk s E (tx (appL (bs s) 0 E)) := by
  obtain ⟨ps, t, h1, h2⟩ := rep E (bs s) 0 (by rw [bs_len]; simpa using h)
  have hT : bs (tx (appL (bs s) 0 E)) = sOf (ps.map swap) t := by rw [bs_tx, ← h1]; exact appL_pc ps t (bs s) [] 0 rfl (by simpa using h2.symm)
  generalize tx (appL (bs s) 0 E) = T at hT
  have hB : backL s E = edOf 0 ((norm ps).map swap) := by rw [← h1]; exact backL_pc s ps t h2.symm
  have hT' : bs T = sOf ((norm ps).map swap) t := by rw [hT, nrm_sOf']
  have hS' : bs s = sOf (norm ps) t := by rw [norm_sOf, h2]
  have hC : backL T (backL s E) = edOf 0 (norm ps) := by
    rw [hB, backL_pc T ((norm ps).map swap) t hT', gaps_norm (gaps_swap (norm_gaps ps)), swap_swap]
  have hTl : (T.size : Int) = ((0 : Nat) : Int) + ((sOf ((norm ps).map swap) t).length : Int) := by rw [← bs_len, hT']; simp
  have hSl : (s.size : Int) = ((0 : Nat) : Int) + ((sOf (norm ps) t).length : Int) := by rw [← bs_len, hS']; simp
  refine ⟨?_, ?_, ?_, ?_, ?_, ?_, ?_, ?_, ?_⟩
  · rw [hB, hTl]; exact good_ap ((norm ps).map swap) t 0 (gaps_good (gaps_swap (norm_gaps ps)))
  · have := sizes_pc ((norm ps).map swap) t 0
    rw [swap_swap] at this
    rw [hB]; omega
  · rw [hB, edOf_len, List.length_map, ← h1, edOf_len]; exact norm_len ps
  · rw [hB]; exact edOf_gaps (gaps_swap (norm_gaps ps))
  · rw [hB, appL_pc ((norm ps).map swap) t (bs T) [] 0 rfl (by simpa using hT'), swap_swap, hS']
  · rw [hC, hB, edOf_len, edOf_len, List.length_map]
  · rw [hC, hSl]; exact good_ap (norm ps) t 0 (gaps_good (norm_gaps ps))
  · have := sizes_pc (norm ps) t 0
    rw [hC]; omega
  · rw [hC, appL_pc (norm ps) t (bs s) [] 0 rfl (by simpa using hS'), hT']
theorem gaps_at {L : List Ed} (h : L.Pairwise fun p q => p.2.1 < q.1) {i : Nat} (h0 : 1 ≤ i) (hi : i < L.length) : (nth L ((i : Int) - 1)).2.1 < (nth L (i : Int)).1 := by
  have := List.pairwise_iff_getElem.1 h (i - 1) i (by omega) hi (by omega)
  rw [show (i : Int) - 1 = ((i - 1 : Nat) : Int) by omega, nth_of (List.getElem?_eq_getElem (show i - 1 < L.length by omega)), nth_of (List.getElem?_eq_getElem hi)]
  exact this
theorem mv_bounds {m n : Int} {r : Bool} {L : List Ed} (h : Ap 0 m L) (hm : m ≤ 1000000) (hz : sizes L ≤ 10000) (h1 : -1099511627776 ≤ n) (h2 : n ≤ 1099511627776) : -1099511627776 ≤ mvL r n L ∧ mvL r n L ≤ 1099511637776 := by
  have := (foldM_rev (n := n) (r := r) (L := L) (M := 1099511627776) (fun e he => by have := h.2.1 e he; omega) (by omega) (by omega) (by omega) (by omega)).2
  omega
theorem move_one {n : Int} {r : Bool} {e : Ed} {m : Int} (h : 0 ≤ e.1 ∧ e.1 ≤ e.2.1 ∧ e.2.1 ≤ m) (hm : m ≤ 1000000) (hz : e.2.2.size ≤ 10000) (h1 : -2000000000000 ≤ n) (h2 : n ≤ 2000000000000) : moveW n r [e] = one n r e :=
  (moveW_eq (L := [e]) (es := [e]) (m := m) (n := n) (r := r) (by rw [ap_cons]; exact ⟨h.1, h.2.1, by simp, by rw [ap_nil]; exact h.2.2⟩) (List.Perm.refl _) hm h1 h2 (by rw [sizes_one]; omega)).1
theorem move_step {E : List Ed} {m : Nat} {n M : Int} {r : Bool} (h : Ap 0 M E) (hM : M ≤ 1000000) (hz : sizes E ≤ 10000) (h1 : -1099511627776 ≤ n) (h2 : n ≤ 1099511627776) (hm : 0 < m) (hl : m ≤ E.length) :
    moveW (mvL r n (E.drop m)) r [nth E ((m : Int) - 1)] = mvL r n (E.drop (m - 1)) := by
  rw [show (m : Int) - 1 = ((m - 1 : Nat) : Int) by omega]
  have hd := drop_cons (xs := E) (show m - 1 < E.length by omega)
  rw [show m - 1 + 1 = m by omega] at hd
  have hmem := nth_mem (xs := E) (show m - 1 < E.length by omega)
  have hb := mv_bounds (n := n) (r := r) (ap_drop (k := m) h) hM (by
    have h7 := sizes_append (E.take m) (E.drop m)
    rw [List.take_append_drop] at h7
    have := sizes_nonneg (E.take m)
    omega) h1 h2
  rw [hd, mvL_cons]
  exact move_one (h.2.1 _ hmem) hM (by have := sizes_mem hmem; omega) (by omega) (by omega)
theorem rises {L : List Ed} {n lo hi : Int} {r : Bool} (h : Ap 0 n L) (h0 : 0 ≤ lo) (h1 : lo ≤ hi) (h2 : hi ≤ n) :
    mvL r lo L ≤ mvL r hi L ∧ 0 ≤ mvL r lo L ∧ mvL r hi L ≤ grown n L ∧ mvL false lo L ≤ mvL true lo L := by
  have hL : ∀ e ∈ L, e.1 ≤ e.2.1 := fun e he => (h.2.1 e he).2.1
  refine ⟨mv_mono hL h1, ?_, ?_, mv_right hL (Int.le_refl _)⟩
  · have hz := mv_zero h
    cases r with
    | false => have := mv_mono (r := false) hL h0; omega
    | true => have := mv_right hL h0; omega
  · have he := mv_end h
    cases r with
    | false => have := mv_right hL h2; omega
    | true => have := mv_mono (r := true) hL h2; omega
theorem kept_of {E : List Ed} {k : Int} {j : Nat} (hj : E.length ≤ j) (h : ∀ i < j, (decide ((nth E ((i : Nat) : Int)).1 ≤ k) && decide (k < (nth E ((i : Nat) : Int)).2.1)) = false) : Kept k E := by
  intro e he
  obtain ⟨i, hi, rfl⟩ := List.getElem_of_mem he
  have := h i (by omega)
  rw [nth_of (List.getElem?_eq_getElem hi), Bool.and_eq_false_iff, decide_eq_false_iff_not, decide_eq_false_iff_not] at this
  omega
theorem keeps {s : ByteArray} {E : List Ed} {k : Nat} (h : Ap 0 (s.size : Int) E) (hk : Kept k E) (hs : k < s.size) :
    0 ≤ mvL true k E ∧ mvL true k E < ((tx (appL (bs s) 0 E)).size : Int) ∧ byteAt (tx (appL (bs s) 0 E)) (mvL true k E) = byteAt s k ∧ mvL false (k + 1) E = mvL true k E + 1 := by
  have h1 := mv_ge (r := true) (k := k) h (by omega)
  obtain ⟨_, h2⟩ := app_kept (s := bs s) (L := E) (a := 0) (k := k) (by rw [bs_len]; exact h) hk (Nat.zero_le _) (by rw [bs_len]; exact hs)
  rw [Nat.sub_zero, List.getElem?_eq_getElem (l := bs s) (by rw [bs_len]; exact hs)] at h2
  have h3 := (List.getElem?_eq_some_iff.1 h2).1
  refine ⟨h1, by rw [tx_size]; omega, ?_, mv_kept h hk⟩
  unfold byteAt
  have e1 : (tx (appL (bs s) 0 E)).data.toList = appL (bs s) 0 E := bs_tx _
  have e2 : s.data.toList = bs s := rfl
  rw [e1, e2, List.getD_eq_getElem?_getD, List.getD_eq_getElem?_getD, h2, Int.toNat_natCast, List.getElem?_eq_getElem (l := bs s) (by rw [bs_len]; exact hs)]
theorem moves_back {s : ByteArray} {E : List Ed} {k : Nat} (h : Ap 0 (s.size : Int) E) (hk : Kept k E) : mvL true (mvL true k E) (backL s E) = k := by
  obtain ⟨ps, t, h1, h2⟩ := rep E (bs s) 0 (by rw [bs_len]; simpa using h)
  have hg : Good ps := by rw [← h1] at h; exact ap_good h
  obtain ⟨m, hm⟩ := kept_at (t := t) (a := 0) (b := 0) hg (by rw [h1]; exact hk) (Nat.zero_le k)
  have e1 := at_mv hg hm
  have hB : backL s E = edOf 0 ((norm ps).map swap) := by rw [← h1]; exact backL_pc s ps t h2.symm
  have e2 := at_mv (gaps_good (gaps_swap (norm_gaps ps))) (at_swap (at_norm hm))
  rw [h1] at e1
  rw [hB, show mvL true k E = (m : Int) by omega]
  omega
theorem seg_ap {E : List Ed} {M : Int} (h : Ap 0 M E) (i j : Nat) : Ap 0 M ((E.drop i).take j) := ap_take (ap_drop h)
theorem seg_sizes (E : List Ed) (i j : Nat) : sizes ((E.drop i).take j) ≤ sizes E := by
  have h1 := sizes_append (E.take i) (E.drop i)
  have h2 := sizes_append ((E.drop i).take j) ((E.drop i).drop j)
  rw [List.take_append_drop] at h1 h2
  have := sizes_nonneg (E.take i); have := sizes_nonneg ((E.drop i).drop j)
  omega
theorem seg_length (E : List Ed) (i j : Nat) : ((E.drop i).take j).length ≤ E.length := by simp; omega
theorem halves {s : ByteArray} {E : List Ed} {k : Nat} (h : Ap 0 (s.size : Int) E) (hs : s.size ≤ 200) (hz : sizes E ≤ 200) (hl : E.length ≤ 20) (hk : k ≤ E.length) :
    mayEd (s.size : Int) ((E.drop k).take (E.length - k)) = 0 ∧ applyF s ((E.drop k).take (E.length - k)) = tx (appL (bs s) 0 (E.drop k)) ∧
    mayEd ((tx (appL (bs s) 0 (E.drop k))).size : Int) ((E.drop 0).take (k - 0)) = 0 ∧ applyF (tx (appL (bs s) 0 (E.drop k))) ((E.drop 0).take (k - 0)) = tx (appL (bs s) 0 E) := by
  rw [List.drop_zero, Nat.sub_zero, List.take_of_length_le (l := E.drop k) (by simp)]
  have hE : E = E.take k ++ E.drop k := (List.take_append_drop k E).symm
  have hz1 := sizes_append (E.take k) (E.drop k)
  rw [← hE] at hz1
  have hz2 := sizes_nonneg (E.take k)
  have hz3 := sizes_nonneg (E.drop k)
  obtain ⟨a1, a2, _, _⟩ := facts6 (ap_drop (k := k) h) (List.Perm.refl _) (by omega) (by omega) (by simp; omega)
  have hts := tx_small (ap_drop (k := k) h)
  have hap : Ap 0 ((tx (appL (bs s) 0 (E.drop k))).size : Int) (E.take k) := by
    cases hd : E.drop k with
    | nil =>
      have : E.take k = E := by conv => rhs; rw [hE, hd]
                                simp
      rw [this]
      refine h.mono (Int.le_refl _) ?_
      rw [tx_size]; simp [appL, bs_len]
    | cons f F =>
      have hh : Ap 0 (s.size : Int) (E.take k ++ f :: F) := by rw [← hd, ← hE]; exact h
      obtain ⟨b1, b2, b3⟩ := ap_append.1 hh
      have hf := b2.2.1 f (by simp)
      have b2' : Ap f.1 (s.size : Int) (f :: F) := by
        obtain ⟨c1, c2, c3, c4⟩ := ap_cons.1 b2
        exact ap_cons.2 ⟨Int.le_refl _, c2, c3, c4⟩
      have hlen : f.1 ≤ ((tx (appL (bs s) 0 (f :: F))).size : Int) := by
        rw [tx_size, appL_from (Nat.zero_le f.1.toNat) (by rw [bs_len, Int.toNat_of_nonneg (by omega)]; exact b2'), List.length_append, seg_len (by rw [bs_len]; omega)]
        omega
      exact ⟨by omega, fun e he => by have := b1.2.1 e he; have := b3 e he f (by simp); omega, b1.2.2⟩
  obtain ⟨c1, c2, _, _⟩ := facts6 hap (List.Perm.refl _) (by omega) (by omega) (by simp; omega)
  refine ⟨a1, a2, c1, ?_⟩
  rw [c2, bs_tx]
  have := appL_parts (s := bs s) (C := E.drop k) (A := E.take k) (a := 0) (by rw [← hE, bs_len]; exact h)
  rw [← hE] at this
  rw [this]
theorem move_halves {E : List Ed} {k : Nat} {n M : Int} {r : Bool} (h : Ap 0 M E) (hM : M ≤ 1000) (hz : sizes E ≤ 200) (h0 : 0 ≤ n) (h1 : n ≤ 1000) :
    moveW (moveW n r ((E.drop k).take (E.length - k))) r ((E.drop 0).take (k - 0)) = moveW n r E := by
  rw [List.drop_zero, Nat.sub_zero, List.take_of_length_le (l := E.drop k) (by simp)]
  have hE : E = E.take k ++ E.drop k := (List.take_append_drop k E).symm
  have hz1 := sizes_append (E.take k) (E.drop k)
  rw [← hE] at hz1
  have hz2 := sizes_nonneg (E.take k)
  have hz3 := sizes_nonneg (E.drop k)
  have e1 := moveW_eq (n := n) (r := r) (ap_drop (k := k) h) (List.Perm.refl _) (by omega) (by omega) (by omega) (by omega)
  have hb := mv_bounds (n := n) (r := r) (ap_drop (k := k) h) (by omega) (by omega) (by omega) (by omega)
  have e2 := moveW_eq (n := mvL r n (E.drop k)) (r := r) (ap_take (k := k) h) (List.Perm.refl _) (by omega) (by omega) (by omega) (by omega)
  have e3 := moveW_eq (n := n) (r := r) h (List.Perm.refl _) (by omega) (by omega) (by omega) (by omega)
  rw [e1.1, e2.1, e3.1, ← mvL_append, ← hE]
/-! ### Codes of two edits -/
theorem may_iff (e : Ed) (n : Int) : mayB (sp e) n = true ↔ 0 ≤ e.1 ∧ e.1 ≤ e.2.1 ∧ e.2.1 ≤ n := by
  simp only [mayB, Bool.and_eq_true, decide_eq_true_eq]
  exact and_assoc
theorem codes_3 {m a1 a2 b1 b2 : Int} {u t : ByteArray} (h : m < a2 ∨ m < b2) : mayEd m [(a1, a2, u), (b1, b2, t)] = 3 := by
  rw [mayEd, if_pos]
  simp only [List.any_cons, List.any_nil, Bool.or_false, Bool.or_eq_true, Bool.not_eq_true', ← Bool.not_eq_true, may_iff]
  omega
theorem codes_any {m a1 a2 b1 b2 : Int} {u t : ByteArray} (h1 : 0 ≤ a1 ∧ a1 ≤ a2 ∧ a2 ≤ m) (h2 : 0 ≤ b1 ∧ b1 ≤ b2 ∧ b2 ≤ m) : ¬ (([(a1, a2, u), (b1, b2, t)] : List Ed).any fun e => !mayB (sp e) m) = true := by
  simp only [List.any_cons, List.any_nil, Bool.or_false, Bool.or_eq_true, Bool.not_eq_true', ← Bool.not_eq_true, may_iff]
  omega
theorem codes_5 {m a1 a2 b1 b2 : Int} {u t : ByteArray} (h1 : 0 ≤ a1 ∧ a1 ≤ a2 ∧ a2 ≤ m) (h2 : 0 ≤ b1 ∧ b1 ≤ b2 ∧ b2 ≤ m) (h : (!apartR (isort lessB [(a1, a2), (b1, b2)])) = true) : mayEd m [(a1, a2, u), (b1, b2, t)] = 5 := by
  rw [mayEd, if_neg (codes_any h1 h2), if_pos]
  rw [← apartR_eq]
  simpa [sp] using h
theorem codes_grown {m a1 a2 b1 b2 : Int} {u t : ByteArray} (h1 : 0 ≤ a1 ∧ a1 ≤ a2 ∧ a2 ≤ m) (h2 : 0 ≤ b1 ∧ b1 ≤ b2 ∧ b2 ≤ m) (hm : m ≤ 1000) (hu : u.size ≤ 1000) (ht : t.size ≤ 100000) :
    grownW m [(a1, a2, u), (b1, b2, t)] = m + ((u.size : Int) - (a2 - a1)) + ((t.size : Int) - (b2 - b1)) := by
  rw [grownW_eq (by omega) (fun e he => by
    simp only [List.mem_cons, List.not_mem_nil, or_false] at he
    rcases he with rfl | rfl <;> simp only [] <;> omega) (by rw [sizes_cons, sizes_one]; simp only []; omega) (by simp)]
  rfl
theorem codes_4 {m a1 a2 b1 b2 : Int} {u t : ByteArray} (h1 : 0 ≤ a1 ∧ a1 ≤ a2 ∧ a2 ≤ m) (h2 : 0 ≤ b1 ∧ b1 ≤ b2 ∧ b2 ≤ m) (hm : m ≤ 1000) (hu : u.size ≤ 1000) (ht : t.size ≤ 100000) (h : (!apartR (isort lessB [(a1, a2), (b1, b2)])) = false)
    (hb : 65536 < m + ((u.size : Int) - (a2 - a1)) + ((t.size : Int) - (b2 - b1))) : mayEd m [(a1, a2, u), (b1, b2, t)] = 4 := by
  rw [mayEd, if_neg (codes_any h1 h2), if_neg, codes_grown h1 h2 hm hu ht, if_pos hb]
  rw [← apartR_eq]
  simpa [sp] using h
theorem codes_0 {m a1 a2 b1 b2 : Int} {u t : ByteArray} (h1 : 0 ≤ a1 ∧ a1 ≤ a2 ∧ a2 ≤ m) (h2 : 0 ≤ b1 ∧ b1 ≤ b2 ∧ b2 ≤ m) (hm : m ≤ 1000) (hu : u.size ≤ 1000) (ht : t.size ≤ 100000) (h : (!apartR (isort lessB [(a1, a2), (b1, b2)])) = false)
    (hb : m + ((u.size : Int) - (a2 - a1)) + ((t.size : Int) - (b2 - b1)) ≤ 65536) : mayEd m [(a1, a2, u), (b1, b2, t)] = 0 := by
  rw [mayEd, if_neg (codes_any h1 h2), if_neg, codes_grown h1 h2 hm hu ht, if_neg (by omega)]
  rw [← apartR_eq]
  simpa [sp] using h
theorem codes_out {s : ByteArray} {es : List Ed} (h : ¬ mayEd (s.size : Int) es = 0) : applyF s es = ⟨#[]⟩ ∧ backF s es = [] := ⟨by rw [applyF, if_neg h], by rw [backF, if_neg h]⟩
end B
end Go.Proofs.Ytfkjmkngiiokmaa
