/-
  How much a tree is, what may be, what is the same: as plain laws. No program.
-/
import Derived.Test.YtocmchlhbniloaaTrQ
set_option linter.unusedSimpArgs false
set_option linter.unusedVariables false
namespace Go.Proofs.Ytocmchlhbniloaa
namespace B
open Srt
theorem grpB_deep (t : Tr) (d : Int) : (deepF t ≤ d) ↔ (maxL (t.kids.map deepF) ≤ depthF t d) := by
  rw [deepF_eq]; unfold depthF
  split <;> omega
theorem fitsF_law (t : Tr) : ∀ n d : Int, 0 ≤ n → 0 ≤ d → (((fitsF t n d).2 = true ↔ (partsF t ≤ n ∧ deepF t ≤ d ∧ allF t = true)) ∧ ((fitsF t n d).2 = true → (fitsF t n d).1 = n - partsF t)) := by
  induction t using Tr.ind with
  | h t ih =>
    intro n d hn hd
    have hK : ∀ ks : List Tr, (∀ k ∈ ks, k ∈ t.kids) → ∀ m d : Int, 0 ≤ m → 0 ≤ d → (((fitsL (ks.map fitsF) m d).2 = true ↔ (sumL (ks.map partsF) ≤ m ∧ maxL (ks.map deepF) ≤ d ∧ ks.all allF = true)) ∧ ((fitsL (ks.map fitsF) m d).2 = true → (fitsL (ks.map fitsF) m d).1 = m - sumL (ks.map partsF))) := by
      intro ks
      induction ks with
      | nil => intro _ m d h h2; simp [fitsL, sumL, maxL]; omega
      | cons k ks ih2 =>
        intro hm m d h h2
        obtain ⟨i1, i2⟩ := ih k (hm k (by simp)) m d h h2
        have hr := fitsF_range k (n := m) (d := d) h
        have hs : sumL ((k :: ks).map partsF) = partsF k + sumL (ks.map partsF) := by
          rw [show k :: ks = [k] ++ ks from rfl, List.map_append, sumL_app]; simp [sumL]
        have hx : ∀ d : Int, maxL ((k :: ks).map deepF) ≤ d ↔ (deepF k ≤ d ∧ maxL (ks.map deepF) ≤ d) := by
          intro d
          constructor
          · intro hh
            refine ⟨Int.le_trans (maxL_mem (by simp)) hh, maxL_le (Int.le_trans (maxL_pos _) hh) fun x hx => Int.le_trans (maxL_mem (by simp at hx ⊢; exact .inr hx)) hh⟩
          · rintro ⟨h3, h4⟩
            refine maxL_le (Int.le_trans (maxL_pos _) h4) fun x hx => ?_
            simp at hx
            rcases hx with rfl | ⟨q, hq, rfl⟩
            · exact h3
            · exact Int.le_trans (maxL_mem (List.mem_map.2 ⟨q, hq, rfl⟩)) h4
        have hp : 0 ≤ sumL (ks.map partsF) := sumL_pos fun x hx => by
          obtain ⟨q, _, rfl⟩ := List.mem_map.1 hx
          have := partsF_pos q; omega
        rw [List.map_cons, fitsL, hs, hx]
        split
        · rename_i hf
          have hf' := i2 hf
          obtain ⟨g1, g2, g3⟩ := i1.1 hf
          obtain ⟨j1, j2⟩ := ih2 (fun x hx => hm x (by simp [hx])) (fitsF k m d).1 d hr.1 h2
          rw [hf'] at j1 j2 ⊢
          refine ⟨?_, fun hh => ?_⟩
          · rw [j1, List.all_cons, g3, Bool.true_and]
            constructor
            · rintro ⟨a, b, c⟩; exact ⟨by omega, ⟨g2, b⟩, c⟩
            · rintro ⟨a, ⟨_, b⟩, c⟩; exact ⟨by omega, b, c⟩
          · rw [j2 hh]; omega
        · rename_i hf
          refine ⟨⟨fun hh => (by cases hh), fun ⟨a, b, c⟩ => ?_⟩, fun hh => (by cases hh)⟩
          rw [List.all_cons, Bool.and_eq_true] at c
          exact absurd (i1.2 ⟨by omega, b.1, c.1⟩) hf
    have hp : 0 ≤ sumL (t.kids.map partsF) := sumL_pos fun x hx => by
      obtain ⟨q, _, rfl⟩ := List.mem_map.1 hx
      have := partsF_pos q; omega
    have hx0 := maxL_pos (t.kids.map deepF)
    rw [fitsF_eq, allF_eq, partsF_eq, grpB_deep]
    split
    · rename_i hc
      refine ⟨⟨fun hh => (by cases hh), fun ⟨a, b, c⟩ => ?_⟩, fun hh => (by cases hh)⟩
      rw [Bool.and_eq_true] at c
      simp [c.2] at hc
      omega
    · rename_i hc
      simp only [Bool.or_eq_true, decide_eq_true_eq, Bool.not_eq_true', not_or, Int.not_lt, Bool.not_eq_false] at hc
      obtain ⟨j1, j2⟩ := hK t.kids (fun _ h => h) (n - 1) (depthF t d) (by omega) (by omega)
      refine ⟨?_, fun hh => ?_⟩
      · rw [j1, hc.2, Bool.and_true]
        constructor
        · rintro ⟨a, b, c⟩; exact ⟨by omega, b, c⟩
        · rintro ⟨a, b, c⟩; exact ⟨by omega, b, c⟩
      · rw [j2 hh]; omega
/-- may a tree be? -/
def mayF (t : Tr) : Bool := (decide (partsF t ≤ 512) && decide (deepF t ≤ 16)) && allF t
theorem may_law (t : Tr) : (fitsF t 512 16).2 = mayF t := by
  rw [Bool.eq_iff_iff, (fitsF_law t 512 16 (by omega) (by omega)).1]
  unfold mayF
  rw [Bool.and_eq_true, Bool.and_eq_true, decide_eq_true_eq, decide_eq_true_eq, and_assoc]
theorem sameF_er2 (a b : Tr) : sameF (er a) (er b) = sameF a b := by
  rw [Bool.eq_iff_iff, sameF_iff, sameF_iff, er_er, er_er]
theorem fieldsF_er (t : Tr) : fieldsF (er t) = fieldsF t := by
  have h1 : ∀ f : Int → Bool, (er t).kids.any (fun x => f x.k) = t.kids.any (fun x => f x.k) := fun f => by
    rw [er_kids, List.any_map]; congr 1; funext x; simp [er_k]
  have h2 : (nth (er t).kids 0).k = (nth t.kids 0).k := by
    rw [er_kids]
    cases hk : t.kids with
    | nil => rfl
    | cons x l =>
      show (nth (List.map er (x :: l)) 0).k = x.k
      rw [← er_k x]; rfl
  have h3 : (er t).kids.length = t.kids.length := by rw [er_kids]; simp
  have h4 : ∀ ks, someK (er t) ks = someK t ks := fun ks => h1 fun k => ks.any fun y => decide (k = y)
  have h5 : bareT (er t) = bareT t := by unfold bareT; rw [er_eq]
  unfold fieldsF
  rw [h2, h3, h4, h4, h5]
  rw [er_eq]
theorem allF_er (t : Tr) : allF (er t) = allF t := foldF_er (fun t l => by rw [fieldsF_er]) t
theorem mayF_er (t : Tr) : mayF (er t) = mayF t := by unfold mayF; rw [partsF_er, deepF_er, allF_er]
theorem rows_wt {n m : Int} {rs : List (ByteArray × ByteArray)} (h : rxRows n rs = some m) : m = n - rwW rs := by
  induction rs generalizing n with
  | nil => simp [rxRows] at h; subst h; simp [rwW, sumL]
  | cons r rs ih =>
    rw [rxRows] at h
    split at h
    · cases h
    · have := ih h
      have hs : rwW (r :: rs) = 1 + (r.1.size : Int) + (r.2.size : Int) + rwW rs := by
        unfold rwW
        rw [show r :: rs = [r] ++ rs from rfl, List.map_append, sumL_app]; simp [sumL]
      omega
theorem rx_wt (t : Tr) : ∀ n : Int, 0 ≤ rxF t n → wtF t ≤ n := by
  have key : ∀ t : Tr, ∀ n : Int, 0 ≤ rxF t n → rxF t n = n - wtF t := by
    intro t
    induction t using Tr.ind with
    | h t ih =>
      have hK : ∀ ks : List Tr, (∀ k ∈ ks, k ∈ t.kids) → ∀ m : Int, 0 ≤ rxK ks m → rxK ks m = m - sumL (ks.map wtF) := by
        intro ks
        induction ks with
        | nil => intro _ m _; simp [rxK, rxL, sumL]
        | cons k ks ih2 =>
          intro hm m h
          have hs : sumL ((k :: ks).map wtF) = wtF k + sumL (ks.map wtF) := by
            rw [show k :: ks = [k] ++ ks from rfl, List.map_append, sumL_app]; simp [sumL]
          rw [rxK_cons] at h ⊢
          by_cases hm0 : m < 0
          · rw [if_pos hm0, rxK_neg hm0] at h
            omega
          · rw [if_neg hm0] at h ⊢
            have h1 := ih2 (fun x hx => hm x (by simp [hx])) _ h
            have h2 : 0 ≤ rxF k m := by
              apply Int.not_lt.1
              intro hneg
              rw [rxK_neg hneg] at h
              omega
            have h3 := ih k (hm k (by simp)) m h2
            omega
      intro n h
      rw [rxF_eq] at h ⊢
      rw [wtF_eq]
      split at h
      · omega
      · rename_i hc
        rw [if_neg hc]
        split at h
        · omega
        · rename_i m hm
          have h1 := rows_wt hm
          have h2 := hK t.kids (fun _ h => h) m h
          omega
  intro n h
  have := key t n h
  omega
theorem fitsF_er (t : Tr) : fitsF (er t) = fitsF t := foldF_er (fun t l => by funext n d; rw [fieldsF_er]; unfold depthF grpB; rw [er_k]) t
theorem er_fold {t u : Tr} (h : er t = u) : t.k = u.k ∧ t.kids.length = u.kids.length ∧ fitsF t = fitsF u ∧ partsF t = partsF u ∧ wtF t = wtF u := by
  subst h
  have hf : ∀ x : Tr, fitsF (er x) = fitsF x := fun x => foldF_er (fun t l => by funext n d; rw [fieldsF_er]; unfold depthF grpB; rw [er_k]) x
  exact ⟨(er_k t).symm, by rw [er_kids]; simp, (hf t).symm, (partsF_er t).symm, (wtF_er t).symm⟩
end B
end Go.Proofs.Ytocmchlhbniloaa
