/-
  Plain lists of stretches: which are apart. No program.
-/
import Derived.Test.YtfkjmkngiiokmaaJoin
import Derived.Test.YtfkjmkngiiokmaaSort3
set_option linter.unusedSimpArgs false
set_option linter.unusedVariables false
namespace Go.Proofs.Ytfkjmkngiiokmaa
namespace B
open Srt
theorem ltS_swo : Swo ltS := by
  constructor
  · intro x y h
    rw [ltS_iff] at h
    rw [← Bool.not_eq_true, ltS_iff]; omega
  · intro x y z h1 h2
    rw [← Bool.not_eq_true, ltS_iff] at h1 h2 ⊢; omega
theorem lessB_eq : lessB = ltS := by
  funext x y
  rw [Bool.eq_iff_iff, ltS_iff]
  simp [lessB]
def badS (ss : List (Int × Int)) (i : Int) : Bool := decide ((nth ss i).2 < (nth ss i).1) || (decide (0 < i) && (decide ((nth ss i).1 = (nth ss (i - 1)).1) || decide ((nth ss i).1 < (nth ss (i - 1)).2)))
def apartF (ss : List (Int × Int)) : Bool := (List.range ss.length).all fun i => !badS ss (i : Int)
theorem upto_succ {f : Int → Bool} {k : Nat} (h : ∀ i < k, f ((i : Nat) : Int) = false) (h2 : f (k : Int) = false) : ∀ i < k + 1, f ((i : Nat) : Int) = false := by
  intro i hi
  by_cases e : i = k
  · subst e; exact h2
  · exact h i (by omega)
theorem apartF_no {ss : List (Int × Int)} {k : Nat} (h : k < ss.length) (hb : badS ss (k : Int) = true) : apartF ss = false := by
  unfold apartF
  rw [List.all_eq_false]
  exact ⟨k, by simpa using h, by simp [hb]⟩
theorem apartF_yes {ss : List (Int × Int)} {k : Nat} (h : ∀ i < k, badS ss ((i : Nat) : Int) = false) (hk : ss.length ≤ k) : apartF ss = true := by
  unfold apartF
  rw [List.all_eq_true]
  intro i hi
  simp at hi
  simp [h i (by omega)]
def badR (ss : List (Int × Int)) (i : Int) : Bool := decide ((nth ss i).2 < (nth ss i).1) || (decide (0 < i) && (decide ((nth ss i).1 ≤ (nth ss (i - 1)).1) || decide ((nth ss i).1 < (nth ss (i - 1)).2)))
theorem badR_1 {ss : List (Int × Int)} {i : Int} (h : decide ((nth ss i).2 < (nth ss i).1) = true) : badR ss i = true := by simp [badR, h]
theorem badR_2 {ss : List (Int × Int)} {i : Int} (h : (decide (0 < i) && (decide ((nth ss i).1 ≤ (nth ss (i - 1)).1) || decide ((nth ss i).1 < (nth ss (i - 1)).2))) = true) : badR ss i = true := by
  unfold badR; rw [h, Bool.or_true]
theorem badR_no {ss : List (Int × Int)} {i : Int} (h : decide ((nth ss i).2 < (nth ss i).1) = false) (h2 : (decide (0 < i) && (decide ((nth ss i).1 ≤ (nth ss (i - 1)).1) || decide ((nth ss i).1 < (nth ss (i - 1)).2))) = false) : badR ss i = false := by
  unfold badR; rw [h, h2]; rfl
def apartR (ss : List (Int × Int)) : Bool := (List.range ss.length).all fun i => !badR ss (i : Int)
theorem apartR_no {ss : List (Int × Int)} {k : Nat} (h : k < ss.length) (hb : badR ss (k : Int) = true) : apartR ss = false := by
  unfold apartR
  rw [List.all_eq_false]
  exact ⟨k, by simpa using h, by simp [hb]⟩
theorem apartR_yes {ss : List (Int × Int)} {k : Nat} (h : ∀ i < k, badR ss ((i : Nat) : Int) = false) (hk : ss.length ≤ k) : apartR ss = true := by
  unfold apartR
  rw [List.all_eq_true]
  intro i hi
  simp at hi
  simp [h i (by omega)]
/-! ### Apart -/
def R (p q : Int × Int) : Prop := p.1 ≠ q.1 ∧ (p.1 < q.1 → p.2 ≤ q.1) ∧ (q.1 < p.1 → q.2 ≤ p.1)
theorem R_symm {p q : Int × Int} (h : R p q) : R q p := ⟨fun e => h.1 e.symm, h.2.2, h.2.1⟩
theorem apartF_iff (ss : List (Int × Int)) : apartF ss = true ↔ ∀ i, i < ss.length → badS ss (i : Int) = false := by
  unfold apartF
  rw [List.all_eq_true]
  simp only [List.mem_range, Bool.not_eq_true']
theorem badS_iff (ss : List (Int × Int)) (i : Int) : badS ss i = false ↔ (nth ss i).1 ≤ (nth ss i).2 ∧ (0 < i → (nth ss i).1 ≠ (nth ss (i - 1)).1 ∧ (nth ss (i - 1)).2 ≤ (nth ss i).1) := by
  simp [badS]
theorem sorted_le {ss : List (Int × Int)} (hs : Sorted ltS ss) {i j : Nat} (h : i ≤ j) (hj : j < ss.length) : (nth ss (i : Int)).1 ≤ (nth ss (j : Int)).1 := by
  have := sorted_at ltS_swo (xs := ss) (i := 0) (j := ss.length) (p := i) (q := j) (by rw [seg_full]; exact hs) (by omega) h hj (Nat.le_refl _)
  rw [← Bool.not_eq_true, ltS_iff] at this
  omega
theorem apart_sorted {ss : List (Int × Int)} (hs : Sorted ltS ss) : apartF ss = true ↔ (∀ p ∈ ss, p.1 ≤ p.2) ∧ ss.Pairwise R := by
  rw [apartF_iff]
  constructor
  · intro h
    have ok : ∀ i, i < ss.length → (nth ss (i : Int)).1 ≤ (nth ss (i : Int)).2 := fun i hi => ((badS_iff _ _).1 (h i hi)).1
    have step : ∀ i, i + 1 < ss.length → (nth ss (i : Int)).1 < (nth ss ((i + 1 : Nat) : Int)).1 ∧ (nth ss (i : Int)).2 ≤ (nth ss ((i + 1 : Nat) : Int)).1 := fun i hi => by
      have := ((badS_iff _ _).1 (h (i + 1) hi)).2 (by omega)
      rw [show ((i + 1 : Nat) : Int) - 1 = (i : Int) by omega] at this
      have l := sorted_le hs (i := i) (j := i + 1) (by omega) hi
      omega
    have chain : ∀ d i, i + d + 1 < ss.length → (nth ss (i : Int)).1 < (nth ss ((i + d + 1 : Nat) : Int)).1 ∧ (nth ss (i : Int)).2 ≤ (nth ss ((i + d + 1 : Nat) : Int)).1 := by
      intro d
      induction d with
      | zero => intro i hi; exact step i hi
      | succ d ih =>
        intro i hi
        have a := ih i (by omega)
        have b := step (i + d + 1) (by omega)
        rw [show i + (d + 1) + 1 = i + d + 1 + 1 by omega]
        omega
    refine ⟨fun p hp => ?_, List.pairwise_iff_getElem.2 fun i j hi hj hij => ?_⟩
    · obtain ⟨i, hi, e⟩ := List.getElem_of_mem hp
      have := ok i hi
      rw [show nth ss (i : Int) = p from nth_of (by rw [List.getElem?_eq_getElem hi, e])] at this
      exact this
    · have e1 : nth ss (i : Int) = ss[i] := nth_of (List.getElem?_eq_getElem hi)
      have e2 : nth ss (j : Int) = ss[j] := nth_of (List.getElem?_eq_getElem hj)
      have := chain (j - i - 1) i (by omega)
      rw [show i + (j - i - 1) + 1 = j by omega, e1, e2] at this
      exact ⟨by omega, fun _ => this.2, fun h => by omega⟩
  · rintro ⟨h1, h2⟩ i hi
    rw [badS_iff]
    have e1 : nth ss (i : Int) = ss[i] := nth_of (List.getElem?_eq_getElem hi)
    refine ⟨by rw [e1]; exact h1 _ (List.getElem_mem hi), fun h0 => ?_⟩
    have hi' : i - 1 < ss.length := by omega
    have e2 : nth ss ((i : Int) - 1) = ss[i - 1] := by rw [show (i : Int) - 1 = ((i - 1 : Nat) : Int) by omega]; exact nth_of (List.getElem?_eq_getElem hi')
    have r := List.pairwise_iff_getElem.1 h2 (i - 1) i hi' hi (by omega)
    have l := sorted_le hs (i := i - 1) (j := i) (by omega) hi
    rw [show ((i - 1 : Nat) : Int) = (i : Int) - 1 by omega, e1, e2] at l
    rw [e1, e2]
    exact ⟨fun e => r.1 e.symm, r.2.1 (by have := r.1; omega)⟩
theorem apart_iff (xs : List (Int × Int)) : apartF (isort ltS xs) = true ↔ (∀ p ∈ xs, p.1 ≤ p.2) ∧ xs.Pairwise R := by
  rw [apart_sorted (isort_sorted ltS_swo xs)]
  have hp := isort_perm (lt := ltS) xs
  constructor
  · rintro ⟨a, b⟩; exact ⟨fun p h => a p (hp.mem_iff.2 h), (hp.pairwise_iff (R := R) (fun h => R_symm h)).1 b⟩
  · rintro ⟨a, b⟩; exact ⟨fun p h => a p (hp.mem_iff.1 h), (hp.pairwise_iff (R := R) (fun h => R_symm h)).2 b⟩
theorem apart_perm {xs ys : List (Int × Int)} (h : xs.Perm ys) : apartF (isort ltS xs) = apartF (isort ltS ys) := by
  rw [Bool.eq_iff_iff, apart_iff, apart_iff]
  constructor
  · rintro ⟨a, b⟩; exact ⟨fun p hp => a p (h.mem_iff.2 hp), (h.pairwise_iff (R := R) (fun h => R_symm h)).1 b⟩
  · rintro ⟨a, b⟩; exact ⟨fun p hp => a p (h.mem_iff.1 hp), (h.pairwise_iff (R := R) (fun h => R_symm h)).2 b⟩
theorem apartR_eq (xs : List (Int × Int)) : apartR (isort lessB xs) = apartF (isort ltS xs) := by
  rw [lessB_eq]
  unfold apartR apartF
  rw [Bool.eq_iff_iff, List.all_eq_true, List.all_eq_true]
  have key : ∀ i, i ∈ List.range (isort ltS xs).length → badR (isort ltS xs) (i : Int) = badS (isort ltS xs) (i : Int) := by
    intro i hi
    simp only [List.mem_range] at hi
    unfold badR badS
    congr 1
    by_cases h0 : (0 : Int) < (i : Int)
    · have l := sorted_le (isort_sorted ltS_swo xs) (i := i - 1) (j := i) (by omega) hi
      rw [show ((i - 1 : Nat) : Int) = (i : Int) - 1 by omega] at l
      congr 2
      exact decide_eq_decide.2 (by omega)
    · rw [decide_eq_false h0]; rfl
  constructor
  · intro h i hi; rw [← key i hi]; exact h i hi
  · intro h i hi; rw [key i hi]; exact h i hi
theorem apart_pair (p q : Int × Int) : apartF (isort ltS [p, q]) = true ↔ p.1 ≤ p.2 ∧ q.1 ≤ q.2 ∧ R p q := by
  rw [apart_iff]
  simp [List.pairwise_cons]
  constructor
  · rintro ⟨⟨a, b⟩, c⟩; exact ⟨a, b, c⟩
  · rintro ⟨a, b, c⟩; exact ⟨⟨a, b⟩, c⟩
end B
end Go.Proofs.Ytfkjmkngiiokmaa
