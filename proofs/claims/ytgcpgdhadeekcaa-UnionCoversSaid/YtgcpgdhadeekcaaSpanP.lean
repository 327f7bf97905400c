/-
  Plain lists of stretches: what their Union and 'apart' come to. No program.
-/
import Derived.Test.YtgcpgdhadeekcaaSpanF
set_option linter.unusedSimpArgs false
set_option linter.unusedVariables false
namespace Go.Proofs.Ytgcpgdhadeekcaa
namespace B
open Srt

theorem lessB_eq : lessB = ltS := by
  funext x y
  rw [Bool.eq_iff_iff, ltS_iff]
  simp [lessB]
theorem touchB_iff {p q : Int × Int} : touchB p q = true ↔ max p.1 q.1 ≤ min p.2 q.2 := by simp [touchB]
theorem hitR_eq (acc : List (Int × Int)) (p : Int × Int) : hitR acc p = joinHit acc p := by
  unfold hitR joinHit
  congr 1
  exact decide_eq_decide.2 (by omega)
theorem joinG_eq (xs : List (Int × Int)) : joinG xs = joinF (xs.filter okB) := by
  induction xs using snoc_ind with
  | h0 => rfl
  | h1 xs x ih =>
    rw [joinG_snoc, stepG, List.filter_append, ih]
    by_cases h : x.2 < x.1
    · rw [if_pos (by simpa using h)]
      have : okB x = false := by simp [okB]; omega
      simp [this]
    · rw [if_neg (by simpa using h)]
      have : okB x = true := by simp [okB]; omega
      simp only [List.filter_cons, this, if_true, List.filter_nil]
      rw [joinF_snoc, joinStep, hitR_eq]

theorem nth_last (A : List (Int × Int)) (l : Int × Int) : nth (A ++ [l]) (((A ++ [l]).length : Int) - 1) = l :=
  nth_app (A := A) (B := []) (by simp)
theorem joinStep_nil (q : Int × Int) : joinStep [] q = [q] := by simp [joinStep, joinHit]
theorem joinStep_snoc (A : List (Int × Int)) (l q : Int × Int) : joinStep (A ++ [l]) q = if touchB l q = true then A ++ [(l.1, max l.2 q.2)] else A ++ [l] ++ [q] := by
  have h1 : joinHit (A ++ [l]) q = touchB l q := by
    unfold joinHit
    rw [nth_last, decide_eq_true (by simp), Bool.true_and]
  unfold joinStep
  rw [h1, nth_last]
  split
  · rw [show (((A ++ [l]).length : Int) - 1).toNat = A.length by simp]
    simp
  · rfl

/-- a place (in halves) is in one of them -/
def cov (xs : List (Int × Int)) (y : Int) : Prop := ∃ p ∈ xs, 2 * p.1 ≤ y ∧ y ≤ 2 * p.2
/-- rising, none touches another, each the right way round -/
def Sep (xs : List (Int × Int)) : Prop := (∀ p ∈ xs, p.1 ≤ p.2) ∧ xs.Pairwise fun p q => p.2 < q.1
theorem cov_append (xs ys : List (Int × Int)) (y : Int) : cov (xs ++ ys) y ↔ cov xs y ∨ cov ys y := by
  simp only [cov, List.mem_append]
  constructor
  · rintro ⟨p, hp | hp, h⟩
    · exact .inl ⟨p, hp, h⟩
    · exact .inr ⟨p, hp, h⟩
  · rintro (⟨p, hp, h⟩ | ⟨p, hp, h⟩)
    · exact ⟨p, .inl hp, h⟩
    · exact ⟨p, .inr hp, h⟩
theorem cov_one (p : Int × Int) (y : Int) : cov [p] y ↔ 2 * p.1 ≤ y ∧ y ≤ 2 * p.2 := by simp [cov]
theorem cov_cons (p : Int × Int) (xs : List (Int × Int)) (y : Int) : cov (p :: xs) y ↔ (2 * p.1 ≤ y ∧ y ≤ 2 * p.2) ∨ cov xs y := by
  rw [show p :: xs = [p] ++ xs from rfl, cov_append, cov_one]
theorem cov_filter (xs : List (Int × Int)) (y : Int) : cov (xs.filter okB) y ↔ cov xs y := by
  simp only [cov, List.mem_filter, okB, decide_eq_true_eq]
  constructor
  · rintro ⟨p, ⟨hp, _⟩, h⟩; exact ⟨p, hp, h⟩
  · rintro ⟨p, hp, h⟩; exact ⟨p, ⟨hp, by omega⟩, h⟩
theorem cov_mem {xs ys : List (Int × Int)} (h : ∀ p, p ∈ xs ↔ p ∈ ys) (y : Int) : cov xs y ↔ cov ys y := by
  simp only [cov, h]
theorem sep_cons {p : Int × Int} {xs : List (Int × Int)} : Sep (p :: xs) ↔ p.1 ≤ p.2 ∧ (∀ q ∈ xs, p.2 < q.1) ∧ Sep xs := by
  unfold Sep
  simp only [List.mem_cons, List.pairwise_cons, forall_eq_or_imp]
  constructor
  · rintro ⟨⟨h1, h2⟩, h3, h4⟩; exact ⟨h1, h3, h2, h4⟩
  · rintro ⟨h1, h3, h2, h4⟩; exact ⟨⟨h1, h2⟩, h3, h4⟩
theorem sep_low {p : Int × Int} {xs : List (Int × Int)} (h : Sep (p :: xs)) {y : Int} (hc : cov xs y) : 2 * p.2 < y := by
  obtain ⟨q, hq, h1, h2⟩ := hc
  have := (sep_cons.1 h).2.1 q hq
  omega
/-- stretches that are parted are told by their places -/
theorem sep_unique : ∀ {xs ys : List (Int × Int)}, Sep xs → Sep ys → (∀ y, cov xs y ↔ cov ys y) → xs = ys
  | [], [], _, _, _ => rfl
  | [], q :: ys, _, h2, h => by
    have := (h (2 * q.1)).2 ((cov_cons _ _ _).2 (.inl ⟨by omega, by have := (sep_cons.1 h2).1; omega⟩))
    obtain ⟨p, hp, _⟩ := this
    cases hp
  | p :: xs, [], h1, _, h => by
    have := (h (2 * p.1)).1 ((cov_cons _ _ _).2 (.inl ⟨by omega, by have := (sep_cons.1 h1).1; omega⟩))
    obtain ⟨q, hq, _⟩ := this
    cases hq
  | p :: xs, q :: ys, h1, h2, h => by
    have k1 := (sep_cons.1 h1).1
    have k2 := (sep_cons.1 h2).1
    have e1 : p.1 = q.1 := by
      have a1 := (cov_cons _ _ _).1 ((h (2 * p.1)).1 ((cov_cons _ _ _).2 (.inl ⟨by omega, by omega⟩)))
      have a2 := (cov_cons _ _ _).1 ((h (2 * q.1)).2 ((cov_cons _ _ _).2 (.inl ⟨by omega, by omega⟩)))
      have b1 : q.1 ≤ p.1 := by
        rcases a1 with a1 | a1
        · omega
        · have := sep_low h2 a1; omega
      have b2 : p.1 ≤ q.1 := by
        rcases a2 with a2 | a2
        · omega
        · have := sep_low h1 a2; omega
      omega
    have half : ∀ {p q : Int × Int} {xs ys : List (Int × Int)}, Sep (p :: xs) → Sep (q :: ys) → p.1 = q.1 → (∀ y, cov (p :: xs) y ↔ cov (q :: ys) y) → q.2 ≤ p.2 := by
      intro p q xs ys h1 h2 e1 h
      have k1 := (sep_cons.1 h1).1
      have k2 := (sep_cons.1 h2).1
      apply Int.not_lt.1
      intro hlt
      have a := (cov_cons _ _ _).1 ((h (2 * p.2 + 1)).2 ((cov_cons _ _ _).2 (.inl ⟨by omega, by omega⟩)))
      rcases a with a | ⟨r, hr, a⟩
      · omega
      · have := (sep_cons.1 h1).2.1 r hr; omega
    have c1 := half h1 h2 e1 h
    have c2 := half h2 h1 e1.symm (fun y => (h y).symm)
    obtain rfl : p = q := Prod.ext e1 (by omega)
    congr 1
    refine sep_unique (sep_cons.1 h1).2.2 (sep_cons.1 h2).2.2 fun y => ?_
    constructor
    · intro hc
      have hl := sep_low h1 hc
      rcases (cov_cons _ _ _).1 ((h y).1 ((cov_cons _ _ _).2 (.inr hc))) with a | a
      · omega
      · exact a
    · intro hc
      have hl := sep_low h2 hc
      rcases (cov_cons _ _ _).1 ((h y).2 ((cov_cons _ _ _).2 (.inr hc))) with a | a
      · omega
      · exact a

theorem joinF_form (ys : List (Int × Int)) (hne : ys ≠ []) : ∃ A l, joinF ys = A ++ [l] := by
  induction ys using snoc_ind with
  | h0 => exact absurd rfl hne
  | h1 ys q ih =>
    rw [joinF_snoc]
    cases hys : joinF ys with
    | nil => exact ⟨[], q, joinStep_nil q⟩
    | cons a l =>
      obtain ⟨A, l', e⟩ : ∃ A l', a :: l = A ++ [l'] := ⟨(a :: l).dropLast, (a :: l).getLast (by simp), (List.dropLast_concat_getLast _).symm⟩
      rw [e, joinStep_snoc]
      split
      · exact ⟨A, _, rfl⟩
      · exact ⟨A ++ [l'], q, rfl⟩
/-- what joining leaves of sorted stretches -/
theorem joinF_spec (ys : List (Int × Int)) (hs : Sorted ltS ys) (ho : ∀ p ∈ ys, p.1 ≤ p.2) :
    Sep (joinF ys) ∧ (∀ y, cov (joinF ys) y ↔ cov ys y) ∧ ∀ l ∈ joinF ys, ∃ p ∈ ys, l.1 = p.1 := by
  induction ys using snoc_ind with
  | h0 => exact ⟨⟨fun p hp => by simp [joinF] at hp, by simp [joinF]⟩, fun y => Iff.rfl, fun l hl => by simp [joinF] at hl⟩
  | h1 ys q ih =>
    obtain ⟨hs1, _, hs2⟩ := List.pairwise_append.1 hs
    obtain ⟨⟨i1, i2⟩, i3, i4⟩ := ih hs1 (fun p hp => ho p (by simp [hp]))
    have hq := ho q (by simp)
    have hle : ∀ l ∈ joinF ys, l.1 ≤ q.1 := by
      intro l hl
      obtain ⟨p, hp, e⟩ := i4 l hl
      have := hs2 p hp q (by simp)
      rw [← Bool.not_eq_true, ltS_iff] at this
      omega
    rw [joinF_snoc]
    cases hys : joinF ys with
    | nil =>
      rw [hys] at i3
      rw [joinStep_nil]
      refine ⟨⟨by simpa using hq, by simp⟩, fun y => ?_, fun l hl => ⟨q, by simp, by simp at hl; rw [hl]⟩⟩
      rw [cov_append, ← i3]
      simp [cov]
    | cons a l0 =>
      obtain ⟨A, l, e⟩ : ∃ A l', a :: l0 = A ++ [l'] := ⟨(a :: l0).dropLast, (a :: l0).getLast (by simp), (List.dropLast_concat_getLast _).symm⟩
      rw [hys, e] at i1 i2 i3 i4 hle
      rw [e, joinStep_snoc]
      obtain ⟨j1, _, j2⟩ := List.pairwise_append.1 i2
      have hl1 := hle l (by simp)
      have hl2 := i1 l (by simp)
      split
      · rename_i ht
        rw [touchB_iff] at ht
        refine ⟨⟨fun p hp => ?_, List.pairwise_append.2 ⟨j1, by simp, fun p hp r hr => ?_⟩⟩, fun y => ?_, fun r hr => ?_⟩
        · rcases List.mem_append.1 hp with hp | hp
          · exact i1 p (by simp [hp])
          · simp at hp; subst hp; show l.1 ≤ max l.2 q.2; omega
        · simp at hr; subst hr; exact j2 p hp l (by simp)
        · rw [cov_append, cov_append, cov_one, cov_one, ← i3, cov_append, cov_one]
          show _ ∨ (2 * l.1 ≤ y ∧ y ≤ 2 * max l.2 q.2) ↔ _
          constructor
          · rintro (h | h)
            · exact .inl (.inl h)
            · by_cases hy : y ≤ 2 * l.2
              · exact .inl (.inr ⟨h.1, hy⟩)
              · exact .inr ⟨by omega, by omega⟩
          · rintro ((h | h) | h)
            · exact .inl h
            · exact .inr ⟨h.1, by omega⟩
            · exact .inr ⟨by omega, by omega⟩
        · rcases List.mem_append.1 hr with hr | hr
          · obtain ⟨p, hp, e⟩ := i4 r (by simp [hr]); exact ⟨p, by simp [hp], e⟩
          · simp at hr; subst hr
            obtain ⟨p, hp, e⟩ := i4 l (by simp); exact ⟨p, by simp [hp], e⟩
      · rename_i ht
        rw [touchB_iff] at ht
        refine ⟨⟨fun p hp => ?_, List.pairwise_append.2 ⟨i2, by simp, fun p hp r hr => ?_⟩⟩, fun y => ?_, fun r hr => ?_⟩
        · rcases List.mem_append.1 hp with hp | hp
          · exact i1 p hp
          · simp at hp; subst hp; exact hq
        · simp at hr; subst hr
          rcases List.mem_append.1 hp with hp | hp
          · have := j2 p hp l (by simp); omega
          · simp at hp; subst hp; omega
        · rw [cov_append, cov_append (ys), i3]
        · rcases List.mem_append.1 hr with hr | hr
          · obtain ⟨p, hp, e⟩ := i4 r hr; exact ⟨p, by simp [hp], e⟩
          · simp at hr; subst hr; exact ⟨r, by simp, rfl⟩
theorem unionF_spec (xs : List (Int × Int)) : Sep (unionF xs) ∧ ∀ y, cov (unionF xs) y ↔ cov xs y := by
  have h := joinF_spec (isort ltS (xs.filter okB)) (isort_sorted ltS_swo _) (fun p hp => by
    have := ((isort_perm _).mem_iff).1 hp
    simpa [okB] using (List.mem_filter.1 this).2)
  exact ⟨h.1, fun y => (h.2.1 y).trans ((cov_mem (fun p => (isort_perm _).mem_iff) y).trans (cov_filter xs y))⟩
theorem unionR_eq (xs : List (Int × Int)) : unionR xs = unionF xs := by
  unfold unionR
  rw [joinG_eq, lessB_eq]
  have hsub : Sorted ltS ((isort ltS xs).filter okB) := List.Pairwise.sublist List.filter_sublist (isort_sorted ltS_swo xs)
  have h := joinF_spec _ hsub (fun p hp => by simpa [okB] using (List.mem_filter.1 hp).2)
  refine sep_unique h.1 (unionF_spec xs).1 fun y => ?_
  rw [h.2.1 y, (unionF_spec xs).2 y, cov_filter]
  exact cov_mem (fun p => (isort_perm _).mem_iff) y
theorem unionF_cov {xs ys : List (Int × Int)} (h : ∀ y, cov xs y ↔ cov ys y) : unionF xs = unionF ys :=
  sep_unique (unionF_spec xs).1 (unionF_spec ys).1 fun y => ((unionF_spec xs).2 y).trans ((h y).trans ((unionF_spec ys).2 y).symm)
theorem unionF_self (xs : List (Int × Int)) : unionF (unionF xs) = unionF xs := unionF_cov fun y => (unionF_spec xs).2 y

/-! ### Apart -/
def R (p q : Int × Int) : Prop := p.1 ≠ q.1 ∧ (p.1 < q.1 → p.2 ≤ q.1) ∧ (q.1 < p.1 → q.2 ≤ p.1)
theorem R_symm {p q : Int × Int} (h : R p q) : R q p := ⟨fun e => h.1 e.symm, h.2.2, h.2.1⟩
theorem apartF_iff (ss : List (Int × Int)) : apartF ss = true ↔ ∀ i, i < ss.length → badS ss (i : Int) = false := by
  unfold apartF
  rw [List.all_eq_true]
  simp only [List.mem_range, Bool.not_eq_true']
theorem badS_iff (ss : List (Int × Int)) (i : Int) : badS ss i = false ↔ (nth ss i).1 ≤ (nth ss i).2 ∧ (0 < i → (nth ss i).1 ≠ (nth ss (i - 1)).1 ∧ (nth ss (i - 1)).2 ≤ (nth ss i).1) := by
  simp [badS]
theorem sorted_le {ss : List (Int × Int)} (hs : Sorted ltS ss) {i j : Nat} (h : i ≤ j) (hj : j < ss.length) : (nth ss (i : Int)).1 ≤ (nth ss (j : Int)).1 := by
  have := sorted_at ltS_swo (xs := ss) (i := 0) (j := ss.length) (p := i) (q := j) (by rw [seg_full]; exact hs) (by omega) h hj (Nat.le_refl _)
  rw [← Bool.not_eq_true, ltS_iff] at this
  omega
theorem apart_sorted {ss : List (Int × Int)} (hs : Sorted ltS ss) : apartF ss = true ↔ (∀ p ∈ ss, p.1 ≤ p.2) ∧ ss.Pairwise R := by
  rw [apartF_iff]
  constructor
  · intro h
    have ok : ∀ i, i < ss.length → (nth ss (i : Int)).1 ≤ (nth ss (i : Int)).2 := fun i hi => ((badS_iff _ _).1 (h i hi)).1
    have step : ∀ i, i + 1 < ss.length → (nth ss (i : Int)).1 < (nth ss ((i + 1 : Nat) : Int)).1 ∧ (nth ss (i : Int)).2 ≤ (nth ss ((i + 1 : Nat) : Int)).1 := fun i hi => by
      have := ((badS_iff _ _).1 (h (i + 1) hi)).2 (by omega)
      rw [show ((i + 1 : Nat) : Int) - 1 = (i : Int) by omega] at this
      have l := sorted_le hs (i := i) (j := i + 1) (by omega) hi
      omega
    have chain : ∀ d i, i + d + 1 < ss.length → (nth ss (i : Int)).1 < (nth ss ((i + d + 1 : Nat) : Int)).1 ∧ (nth ss (i : Int)).2 ≤ (nth ss ((i + d + 1 : Nat) : Int)).1 := by
      intro d
      induction d with
      | zero => intro i hi; exact step i hi
      | succ d ih =>
        intro i hi
        have a := ih i (by omega)
        have b := step (i + d + 1) (by omega)
        rw [show i + (d + 1) + 1 = i + d + 1 + 1 by omega]
        omega
    refine ⟨fun p hp => ?_, List.pairwise_iff_getElem.2 fun i j hi hj hij => ?_⟩
    · obtain ⟨i, hi, e⟩ := List.getElem_of_mem hp
      have := ok i hi
      rw [show nth ss (i : Int) = p from nth_of (by rw [List.getElem?_eq_getElem hi, e])] at this
      exact this
    · have e1 : nth ss (i : Int) = ss[i] := nth_of (List.getElem?_eq_getElem hi)
      have e2 : nth ss (j : Int) = ss[j] := nth_of (List.getElem?_eq_getElem hj)
      have := chain (j - i - 1) i (by omega)
      rw [show i + (j - i - 1) + 1 = j by omega, e1, e2] at this
      exact ⟨by omega, fun _ => this.2, fun h => by omega⟩
  · rintro ⟨h1, h2⟩ i hi
    rw [badS_iff]
    have e1 : nth ss (i : Int) = ss[i] := nth_of (List.getElem?_eq_getElem hi)
    refine ⟨by rw [e1]; exact h1 _ (List.getElem_mem hi), fun h0 => ?_⟩
    have hi' : i - 1 < ss.length := by omega
    have e2 : nth ss ((i : Int) - 1) = ss[i - 1] := by rw [show (i : Int) - 1 = ((i - 1 : Nat) : Int) by omega]; exact nth_of (List.getElem?_eq_getElem hi')
    have r := List.pairwise_iff_getElem.1 h2 (i - 1) i hi' hi (by omega)
    have l := sorted_le hs (i := i - 1) (j := i) (by omega) hi
    rw [show ((i - 1 : Nat) : Int) = (i : Int) - 1 by omega, e1, e2] at l
    rw [e1, e2]
    exact ⟨fun e => r.1 e.symm, r.2.1 (by have := r.1; omega)⟩
theorem apart_iff (xs : List (Int × Int)) : apartF (isort ltS xs) = true ↔ (∀ p ∈ xs, p.1 ≤ p.2) ∧ xs.Pairwise R := by
  rw [apart_sorted (isort_sorted ltS_swo xs)]
  have hp := isort_perm (lt := ltS) xs
  constructor
  · rintro ⟨a, b⟩; exact ⟨fun p h => a p (hp.mem_iff.2 h), (hp.pairwise_iff (R := R) (fun h => R_symm h)).1 b⟩
  · rintro ⟨a, b⟩; exact ⟨fun p h => a p (hp.mem_iff.1 h), (hp.pairwise_iff (R := R) (fun h => R_symm h)).2 b⟩
theorem apart_perm {xs ys : List (Int × Int)} (h : xs.Perm ys) : apartF (isort ltS xs) = apartF (isort ltS ys) := by
  rw [Bool.eq_iff_iff, apart_iff, apart_iff]
  constructor
  · rintro ⟨a, b⟩; exact ⟨fun p hp => a p (h.mem_iff.2 hp), (h.pairwise_iff (R := R) (fun h => R_symm h)).1 b⟩
  · rintro ⟨a, b⟩; exact ⟨fun p hp => a p (h.mem_iff.1 hp), (h.pairwise_iff (R := R) (fun h => R_symm h)).2 b⟩
theorem apartR_eq (xs : List (Int × Int)) : apartR (isort lessB xs) = apartF (isort ltS xs) := by
  rw [lessB_eq]
  unfold apartR apartF
  rw [Bool.eq_iff_iff, List.all_eq_true, List.all_eq_true]
  have key : ∀ i, i ∈ List.range (isort ltS xs).length → badR (isort ltS xs) (i : Int) = badS (isort ltS xs) (i : Int) := by
    intro i hi
    simp only [List.mem_range] at hi
    unfold badR badS
    congr 1
    by_cases h0 : (0 : Int) < (i : Int)
    · have l := sorted_le (isort_sorted ltS_swo xs) (i := i - 1) (j := i) (by omega) hi
      rw [show ((i - 1 : Nat) : Int) = (i : Int) - 1 by omega] at l
      congr 2
      exact decide_eq_decide.2 (by omega)
    · rw [decide_eq_false h0]; rfl
  constructor
  · intro h i hi; rw [← key i hi]; exact h i hi
  · intro h i hi; rw [key i hi]; exact h i hi
theorem apart_pair (p q : Int × Int) : apartF (isort ltS [p, q]) = true ↔ p.1 ≤ p.2 ∧ q.1 ≤ q.2 ∧ R p q := by
  rw [apart_iff]
  simp [List.pairwise_cons]
  constructor
  · rintro ⟨⟨a, b⟩, c⟩; exact ⟨a, b, c⟩
  · rintro ⟨a, b, c⟩; exact ⟨⟨a, b⟩, c⟩
end B
end Go.Proofs.Ytgcpgdhadeekcaa
