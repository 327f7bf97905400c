/-
  Plain lists of stretches: putting together those that touch; stretches that are parted are told by their places. No program.
-/
import Derived.Test.YthaeepiichphjaaSelA
import Derived.Test.YthaeepiichphjaaRef
set_option linter.unusedSimpArgs false
set_option linter.unusedVariables false
namespace Go.Proofs.Ythaeepiichphjaa
namespace B
open Srt
def okB (p : Int × Int) : Bool := decide (p.1 ≤ p.2)
def ltS (x y : Int × Int) : Bool := decide (cmpS x y < 0)
theorem cmpS_eq (x y : Int × Int) : cmpS x y = if x.1 < y.1 then -1 else if y.1 < x.1 then 1 else if x.2 < y.2 then -1 else if y.2 < x.2 then 1 else 0 := by
  unfold cmpS orF cmpI
  by_cases h1 : x.1 < y.1 <;> by_cases h2 : y.1 < x.1 <;> by_cases h3 : x.2 < y.2 <;> by_cases h4 : y.2 < x.2 <;> simp [h1, h2, h3, h4, List.find?]
theorem ltS_iff (x y : Int × Int) : ltS x y = true ↔ x.1 < y.1 ∨ (x.1 = y.1 ∧ x.2 < y.2) := by
  unfold ltS
  rw [cmpS_eq, decide_eq_true_eq]
  split
  · constructor <;> intro _ <;> omega
  · split
    · constructor <;> intro _ <;> omega
    · split
      · constructor <;> intro _ <;> omega
      · split
        · constructor <;> intro _ <;> omega
        · constructor <;> intro _ <;> omega
/-- does p go together with the last one? -/
def joinHit (acc : List (Int × Int)) (p : Int × Int) : Bool := decide (0 ≤ (acc.length : Int) - 1) && touchB (nth acc ((acc.length : Int) - 1)) p
def joinStep (acc : List (Int × Int)) (p : Int × Int) : List (Int × Int) :=
  if joinHit acc p = true then acc.set ((acc.length : Int) - 1).toNat ((nth acc ((acc.length : Int) - 1)).1, max (nth acc ((acc.length : Int) - 1)).2 p.2) else acc ++ [p]
def joinF (xs : List (Int × Int)) : List (Int × Int) := xs.foldl joinStep []
theorem joinF_snoc (xs : List (Int × Int)) (p : Int × Int) : joinF (xs ++ [p]) = joinStep (joinF xs) p := by simp [joinF]
theorem joinF_hit {xs : List (Int × Int)} {k : Nat} (h : k < xs.length) (hc : joinHit (joinF (xs.take k)) (nth xs (k : Int)) = true) :
    joinF (xs.take (k + 1)) = (joinF (xs.take k)).set (((joinF (xs.take k)).length : Int) - 1).toNat ((nth (joinF (xs.take k)) (((joinF (xs.take k)).length : Int) - 1)).1, max (nth (joinF (xs.take k)) (((joinF (xs.take k)).length : Int) - 1)).2 (nth xs (k : Int)).2) := by
  rw [take_snoc h, joinF_snoc, joinStep, if_pos hc]
theorem joinF_miss {xs : List (Int × Int)} {k : Nat} (h : k < xs.length) (hc : joinHit (joinF (xs.take k)) (nth xs (k : Int)) = false) : joinF (xs.take (k + 1)) = joinF (xs.take k) ++ [nth xs (k : Int)] := by
  rw [take_snoc h, joinF_snoc, joinStep, if_neg (by rw [hc]; decide)]
theorem joinF_le (xs : List (Int × Int)) : (joinF xs).length ≤ xs.length := by
  induction xs using snoc_ind with
  | h0 => simp [joinF]
  | h1 xs x ih =>
    rw [joinF_snoc, joinStep]
    split
    · simp; omega
    · simp; omega
theorem joinF_take {xs : List (Int × Int)} {k : Nat} : (joinF (xs.take k)).length ≤ k := by
  have h1 := joinF_le (xs.take k)
  have h2 := List.length_take_le k xs
  omega
theorem touchB_iff {p q : Int × Int} : touchB p q = true ↔ max p.1 q.1 ≤ min p.2 q.2 := by simp [touchB]
theorem nth_last (A : List (Int × Int)) (l : Int × Int) : nth (A ++ [l]) (((A ++ [l]).length : Int) - 1) = l :=
  nth_app (A := A) (B := []) (by simp)
theorem joinStep_nil (q : Int × Int) : joinStep [] q = [q] := by simp [joinStep, joinHit]
theorem joinStep_snoc (A : List (Int × Int)) (l q : Int × Int) : joinStep (A ++ [l]) q = if touchB l q = true then A ++ [(l.1, max l.2 q.2)] else A ++ [l] ++ [q] := by
  have h1 : joinHit (A ++ [l]) q = touchB l q := by
    unfold joinHit
    rw [nth_last, decide_eq_true (by simp), Bool.true_and]
  unfold joinStep
  rw [h1, nth_last]
  split
  · rw [show (((A ++ [l]).length : Int) - 1).toNat = A.length by simp]
    simp
  · rfl

/-- a place (in halves) is in one of them -/
def cov (xs : List (Int × Int)) (y : Int) : Prop := ∃ p ∈ xs, 2 * p.1 ≤ y ∧ y ≤ 2 * p.2
/-- rising, none touches another, each the right way round -/
def Sep (xs : List (Int × Int)) : Prop := (∀ p ∈ xs, p.1 ≤ p.2) ∧ xs.Pairwise fun p q => p.2 < q.1
theorem cov_append (xs ys : List (Int × Int)) (y : Int) : cov (xs ++ ys) y ↔ cov xs y ∨ cov ys y := by
  simp only [cov, List.mem_append]
  constructor
  · rintro ⟨p, hp | hp, h⟩
    · exact .inl ⟨p, hp, h⟩
    · exact .inr ⟨p, hp, h⟩
  · rintro (⟨p, hp, h⟩ | ⟨p, hp, h⟩)
    · exact ⟨p, .inl hp, h⟩
    · exact ⟨p, .inr hp, h⟩
theorem cov_one (p : Int × Int) (y : Int) : cov [p] y ↔ 2 * p.1 ≤ y ∧ y ≤ 2 * p.2 := by simp [cov]
theorem cov_cons (p : Int × Int) (xs : List (Int × Int)) (y : Int) : cov (p :: xs) y ↔ (2 * p.1 ≤ y ∧ y ≤ 2 * p.2) ∨ cov xs y := by
  rw [show p :: xs = [p] ++ xs from rfl, cov_append, cov_one]
theorem cov_filter (xs : List (Int × Int)) (y : Int) : cov (xs.filter okB) y ↔ cov xs y := by
  simp only [cov, List.mem_filter, okB, decide_eq_true_eq]
  constructor
  · rintro ⟨p, ⟨hp, _⟩, h⟩; exact ⟨p, hp, h⟩
  · rintro ⟨p, hp, h⟩; exact ⟨p, ⟨hp, by omega⟩, h⟩
theorem cov_mem {xs ys : List (Int × Int)} (h : ∀ p, p ∈ xs ↔ p ∈ ys) (y : Int) : cov xs y ↔ cov ys y := by
  simp only [cov, h]
theorem sep_cons {p : Int × Int} {xs : List (Int × Int)} : Sep (p :: xs) ↔ p.1 ≤ p.2 ∧ (∀ q ∈ xs, p.2 < q.1) ∧ Sep xs := by
  unfold Sep
  simp only [List.mem_cons, List.pairwise_cons, forall_eq_or_imp]
  constructor
  · rintro ⟨⟨h1, h2⟩, h3, h4⟩; exact ⟨h1, h3, h2, h4⟩
  · rintro ⟨h1, h3, h2, h4⟩; exact ⟨⟨h1, h2⟩, h3, h4⟩
theorem sep_low {p : Int × Int} {xs : List (Int × Int)} (h : Sep (p :: xs)) {y : Int} (hc : cov xs y) : 2 * p.2 < y := by
  obtain ⟨q, hq, h1, h2⟩ := hc
  have := (sep_cons.1 h).2.1 q hq
  omega
/-- stretches that are parted are told by their places -/
theorem sep_unique : ∀ {xs ys : List (Int × Int)}, Sep xs → Sep ys → (∀ y, cov xs y ↔ cov ys y) → xs = ys
  | [], [], _, _, _ => rfl
  | [], q :: ys, _, h2, h => by
    have := (h (2 * q.1)).2 ((cov_cons _ _ _).2 (.inl ⟨by omega, by have := (sep_cons.1 h2).1; omega⟩))
    obtain ⟨p, hp, _⟩ := this
    cases hp
  | p :: xs, [], h1, _, h => by
    have := (h (2 * p.1)).1 ((cov_cons _ _ _).2 (.inl ⟨by omega, by have := (sep_cons.1 h1).1; omega⟩))
    obtain ⟨q, hq, _⟩ := this
    cases hq
  | p :: xs, q :: ys, h1, h2, h => by
    have k1 := (sep_cons.1 h1).1
    have k2 := (sep_cons.1 h2).1
    have e1 : p.1 = q.1 := by
      have a1 := (cov_cons _ _ _).1 ((h (2 * p.1)).1 ((cov_cons _ _ _).2 (.inl ⟨by omega, by omega⟩)))
      have a2 := (cov_cons _ _ _).1 ((h (2 * q.1)).2 ((cov_cons _ _ _).2 (.inl ⟨by omega, by omega⟩)))
      have b1 : q.1 ≤ p.1 := by
        rcases a1 with a1 | a1
        · omega
        · have := sep_low h2 a1; omega
      have b2 : p.1 ≤ q.1 := by
        rcases a2 with a2 | a2
        · omega
        · have := sep_low h1 a2; omega
      omega
    have half : ∀ {p q : Int × Int} {xs ys : List (Int × Int)}, Sep (p :: xs) → Sep (q :: ys) → p.1 = q.1 → (∀ y, cov (p :: xs) y ↔ cov (q :: ys) y) → q.2 ≤ p.2 := by
      intro p q xs ys h1 h2 e1 h
      have k1 := (sep_cons.1 h1).1
      have k2 := (sep_cons.1 h2).1
      apply Int.not_lt.1
      intro hlt
      have a := (cov_cons _ _ _).1 ((h (2 * p.2 + 1)).2 ((cov_cons _ _ _).2 (.inl ⟨by omega, by omega⟩)))
      rcases a with a | ⟨r, hr, a⟩
      · omega
      · have := (sep_cons.1 h1).2.1 r hr; omega
    have c1 := half h1 h2 e1 h
    have c2 := half h2 h1 e1.symm (fun y => (h y).symm)
    obtain rfl : p = q := Prod.ext e1 (by omega)
    congr 1
    refine sep_unique (sep_cons.1 h1).2.2 (sep_cons.1 h2).2.2 fun y => ?_
    constructor
    · intro hc
      have hl := sep_low h1 hc
      rcases (cov_cons _ _ _).1 ((h y).1 ((cov_cons _ _ _).2 (.inr hc))) with a | a
      · omega
      · exact a
    · intro hc
      have hl := sep_low h2 hc
      rcases (cov_cons _ _ _).1 ((h y).2 ((cov_cons _ _ _).2 (.inr hc))) with a | a
      · omega
      · exact a

theorem joinF_form (ys : List (Int × Int)) (hne : ys ≠ []) : ∃ A l, joinF ys = A ++ [l] := by
  induction ys using snoc_ind with
  | h0 => exact absurd rfl hne
  | h1 ys q ih =>
    rw [joinF_snoc]
    cases hys : joinF ys with
    | nil => exact ⟨[], q, joinStep_nil q⟩
    | cons a l =>
      obtain ⟨A, l', e⟩ : ∃ A l', a :: l = A ++ [l'] := ⟨(a :: l).dropLast, (a :: l).getLast (by simp), (List.dropLast_concat_getLast _).symm⟩
      rw [e, joinStep_snoc]
      split
      · exact ⟨A, _, rfl⟩
      · exact ⟨A ++ [l'], q, rfl⟩
/-- what joining leaves of sorted stretches -/
theorem joinF_spec (ys : List (Int × Int)) (hs : Sorted ltS ys) (ho : ∀ p ∈ ys, p.1 ≤ p.2) :
    Sep (joinF ys) ∧ (∀ y, cov (joinF ys) y ↔ cov ys y) ∧ ∀ l ∈ joinF ys, ∃ p ∈ ys, l.1 = p.1 := by
  induction ys using snoc_ind with
  | h0 => exact ⟨⟨fun p hp => by simp [joinF] at hp, by simp [joinF]⟩, fun y => Iff.rfl, fun l hl => by simp [joinF] at hl⟩
  | h1 ys q ih =>
    obtain ⟨hs1, _, hs2⟩ := List.pairwise_append.1 hs
    obtain ⟨⟨i1, i2⟩, i3, i4⟩ := ih hs1 (fun p hp => ho p (by simp [hp]))
    have hq := ho q (by simp)
    have hle : ∀ l ∈ joinF ys, l.1 ≤ q.1 := by
      intro l hl
      obtain ⟨p, hp, e⟩ := i4 l hl
      have := hs2 p hp q (by simp)
      rw [← Bool.not_eq_true, ltS_iff] at this
      omega
    rw [joinF_snoc]
    cases hys : joinF ys with
    | nil =>
      rw [hys] at i3
      rw [joinStep_nil]
      refine ⟨⟨by simpa using hq, by simp⟩, fun y => ?_, fun l hl => ⟨q, by simp, by simp at hl; rw [hl]⟩⟩
      rw [cov_append, ← i3]
      simp [cov]
    | cons a l0 =>
      obtain ⟨A, l, e⟩ : ∃ A l', a :: l0 = A ++ [l'] := ⟨(a :: l0).dropLast, (a :: l0).getLast (by simp), (List.dropLast_concat_getLast _).symm⟩
      rw [hys, e] at i1 i2 i3 i4 hle
      rw [e, joinStep_snoc]
      obtain ⟨j1, _, j2⟩ := List.pairwise_append.1 i2
      have hl1 := hle l (by simp)
      have hl2 := i1 l (by simp)
      split
      · rename_i ht
        rw [touchB_iff] at ht
        refine ⟨⟨fun p hp => ?_, List.pairwise_append.2 ⟨j1, by simp, fun p hp r hr => ?_⟩⟩, fun y => ?_, fun r hr => ?_⟩
        · rcases List.mem_append.1 hp with hp | hp
          · exact i1 p (by simp [hp])
          · simp at hp; subst hp; show l.1 ≤ max l.2 q.2; omega
        · simp at hr; subst hr; exact j2 p hp l (by simp)
        · rw [cov_append, cov_append, cov_one, cov_one, ← i3, cov_append, cov_one]
          show _ ∨ (2 * l.1 ≤ y ∧ y ≤ 2 * max l.2 q.2) ↔ _
          constructor
          · rintro (h | h)
            · exact .inl (.inl h)
            · by_cases hy : y ≤ 2 * l.2
              · exact .inl (.inr ⟨h.1, hy⟩)
              · exact .inr ⟨by omega, by omega⟩
          · rintro ((h | h) | h)
            · exact .inl h
            · exact .inr ⟨h.1, by omega⟩
            · exact .inr ⟨by omega, by omega⟩
        · rcases List.mem_append.1 hr with hr | hr
          · obtain ⟨p, hp, e⟩ := i4 r (by simp [hr]); exact ⟨p, by simp [hp], e⟩
          · simp at hr; subst hr
            obtain ⟨p, hp, e⟩ := i4 l (by simp); exact ⟨p, by simp [hp], e⟩
      · rename_i ht
        rw [touchB_iff] at ht
        refine ⟨⟨fun p hp => ?_, List.pairwise_append.2 ⟨i2, by simp, fun p hp r hr => ?_⟩⟩, fun y => ?_, fun r hr => ?_⟩
        · rcases List.mem_append.1 hp with hp | hp
          · exact i1 p hp
          · simp at hp; subst hp; exact hq
        · simp at hr; subst hr
          rcases List.mem_append.1 hp with hp | hp
          · have := j2 p hp l (by simp); omega
          · simp at hp; subst hp; omega
        · rw [cov_append, cov_append (ys), i3]
        · rcases List.mem_append.1 hr with hr | hr
          · obtain ⟨p, hp, e⟩ := i4 r hr; exact ⟨p, by simp [hp], e⟩
          · simp at hr; subst hr; exact ⟨r, by simp, rfl⟩
end B
end Go.Proofs.Ythaeepiichphjaa
