/-
  Plain lists: the stable insertion sort, merging, exchanging two stretches in place. No program.
-/
import Derived.Test.YtocmchlhbniloaaBase5
namespace Go.Proofs.Ytocmchlhbniloaa
namespace Srt
open B
variable {α : Type}

/-- of the elements from i to j -/
def seg (xs : List α) (i j : Nat) : List α := (xs.drop i).take (j - i)

theorem seg_len {xs : List α} {i j : Nat} (h : j ≤ xs.length) : (seg xs i j).length = j - i := by simp [seg]; omega
theorem seg_full (xs : List α) : seg xs 0 xs.length = xs := by simp [seg]
theorem seg_self (xs : List α) (i : Nat) : seg xs i i = [] := by simp [seg]
theorem seg_append {xs : List α} {i j k : Nat} (h1 : i ≤ j) (h2 : j ≤ k) : seg xs i k = seg xs i j ++ seg xs j k := by
  unfold seg
  rw [show k - i = (j - i) + (k - j) by omega, List.take_add, List.drop_drop, show i + (j - i) = j by omega]
theorem take_seg {xs : List α} {i j : Nat} (h : i ≤ j) : xs.take j = xs.take i ++ seg xs i j := by
  unfold seg
  conv => lhs; rw [show j = i + (j - i) by omega, List.take_add]
theorem seg_drop {xs : List α} {i j : Nat} (h : i ≤ j) : xs.drop i = seg xs i j ++ xs.drop j := by
  unfold seg
  conv => lhs; rw [← List.take_append_drop (j - i) (xs.drop i), List.drop_drop, show i + (j - i) = j by omega]
theorem split3 {xs : List α} {i j : Nat} (h : i ≤ j) : xs = xs.take i ++ seg xs i j ++ xs.drop j := by
  rw [List.append_assoc, ← seg_drop h, List.take_append_drop]
theorem seg_get {xs : List α} {i j k : Nat} (h : k < j - i) : (seg xs i j)[k]? = xs[i + k]? := by
  simp [seg, h, List.getElem?_drop]
theorem mem_seg {xs : List α} {i j : Nat} {x : α} (h : x ∈ seg xs i j) : ∃ k, i ≤ k ∧ k < j ∧ xs[k]? = some x := by
  obtain ⟨k, hk⟩ := List.getElem?_of_mem h
  have hlt : k < j - i := by
    have := (List.getElem?_eq_some_iff.1 hk).1
    simp [seg] at this; omega
  rw [seg_get hlt] at hk
  exact ⟨i + k, by omega, by omega, hk⟩
theorem seg_put {A B C : List α} {i j : Nat} (hi : A.length = i) (hj : i + B.length = j) : seg (A ++ B ++ C) i j = B := by
  subst hi
  unfold seg
  rw [List.append_assoc, List.drop_left, show j - A.length = B.length by omega, List.take_left]

section order
variable (lt : α → α → Bool)
structure Swo : Prop where
  asym : ∀ x y, lt x y = true → lt y x = false
  neg : ∀ x y z, lt x y = false → lt y z = false → lt x z = false

def mrg : List α → List α → List α
  | [], ys => ys
  | x :: xs, [] => x :: xs
  | x :: xs, y :: ys => if lt y x then y :: mrg (x :: xs) ys else x :: mrg xs (y :: ys)
termination_by xs ys => xs.length + ys.length

variable {lt}
theorem mrg_nil_left (ys : List α) : mrg lt [] ys = ys := by simp [mrg]
theorem mrg_nil_right (xs : List α) : mrg lt xs [] = xs := by cases xs <;> simp [mrg]
theorem mrg_length : ∀ (n : Nat) (L R : List α), L.length + R.length ≤ n → (mrg lt L R).length = L.length + R.length
  | _, [], R, _ => by simp [mrg]
  | _, l :: L, [], _ => by simp [mrg]
  | 0, l :: L, r :: R, h => by simp at h
  | n + 1, l :: L, r :: R, h => by
    simp only [List.length_cons] at h
    rw [mrg]
    split
    · simp only [List.length_cons, mrg_length n (l :: L) R (by simp; omega)]; omega
    · simp only [List.length_cons, mrg_length n L (r :: R) (by simp; omega)]; omega
theorem mrg_len (L R : List α) : (mrg lt L R).length = L.length + R.length := mrg_length _ L R (Nat.le_refl _)
theorem mrg_perm : ∀ (n : Nat) (L R : List α), L.length + R.length ≤ n → (mrg lt L R).Perm (L ++ R)
  | _, [], R, _ => by simp [mrg]
  | _, l :: L, [], _ => by simp [mrg]
  | 0, l :: L, r :: R, h => by simp at h
  | n + 1, l :: L, r :: R, h => by
    simp only [List.length_cons] at h
    rw [mrg]
    split
    · refine (List.Perm.cons r (mrg_perm n (l :: L) R (by simp; omega))).trans ?_
      exact (List.perm_middle (l₁ := l :: L) (l₂ := R) (a := r)).symm
    · exact List.Perm.cons l (mrg_perm n L (r :: R) (by simp; omega))
theorem mem_mrg {L R : List α} {x : α} : x ∈ mrg lt L R ↔ x ∈ L ∨ x ∈ R := by
  rw [(mrg_perm _ L R (Nat.le_refl _)).mem_iff, List.mem_append]

theorem mrg_split : ∀ (n : Nat) (L1 R1 L2 R2 : List α), L1.length + R1.length ≤ n → (∀ r ∈ R1, ∀ l ∈ L2, lt r l = true) → (∀ l ∈ L1, ∀ r ∈ R2, lt r l = false) →
    mrg lt (L1 ++ L2) (R1 ++ R2) = mrg lt L1 R1 ++ mrg lt L2 R2
  | _, [], [], L2, R2, _, _, _ => by simp [mrg_nil_left]
  | 0, [], r :: R1, L2, R2, h, _, _ => by simp at h
  | 0, l :: L1, R1, L2, R2, h, _, _ => by simp at h
  | n + 1, [], r :: R1, L2, R2, h, h1, h2 => by
    cases L2 with
    | nil => simp [mrg_nil_left]
    | cons l L2 =>
      have hr : lt r l = true := h1 r (by simp) l (by simp)
      have ih := mrg_split n [] R1 (l :: L2) R2 (by simp at h ⊢; omega) (fun r hr => h1 r (by simp [hr])) (fun l hl => by simp at hl)
      simp only [List.nil_append, mrg_nil_left] at ih ⊢
      rw [List.cons_append, mrg, if_pos hr, ih, List.cons_append]
  | n + 1, l :: L1, [], L2, R2, h, h1, h2 => by
    cases R2 with
    | nil => simp [mrg_nil_right]
    | cons r R2 =>
      have hr : lt r l = false := h2 l (by simp) r (by simp)
      have ih := mrg_split n L1 [] L2 (r :: R2) (by simp at h ⊢; omega) (fun r hr => by simp at hr) (fun l hl => h2 l (by simp [hl]))
      simp only [List.nil_append, mrg_nil_right] at ih ⊢
      rw [List.cons_append, mrg, if_neg (by simp [hr]), ih, List.cons_append]
  | n + 1, l :: L1, r :: R1, L2, R2, h, h1, h2 => by
    simp only [List.cons_append]
    rw [mrg]
    split
    · rename_i hr
      have ih := mrg_split n (l :: L1) R1 L2 R2 (by simp at h ⊢; omega) (fun r hr => h1 r (by simp [hr])) h2
      rw [List.cons_append] at ih
      rw [ih, mrg, if_pos hr, List.cons_append]
    · rename_i hr
      have ih := mrg_split n L1 (r :: R1) L2 R2 (by simp at h ⊢; omega) h1 (fun l hl => h2 l (by simp [hl]))
      rw [List.cons_append] at ih
      rw [ih, mrg, if_neg hr, List.cons_append]
theorem mrg_parts {L1 R1 L2 R2 : List α} (h1 : ∀ r ∈ R1, ∀ l ∈ L2, lt r l = true) (h2 : ∀ l ∈ L1, ∀ r ∈ R2, lt r l = false) : mrg lt (L1 ++ L2) (R1 ++ R2) = mrg lt L1 R1 ++ mrg lt L2 R2 :=
  mrg_split _ L1 R1 L2 R2 (Nat.le_refl _) h1 h2
theorem mrg_one_left {x : α} {R : List α} (h : ∀ r ∈ R, lt r x = false) : mrg lt [x] R = x :: R := by
  cases R with
  | nil => simp [mrg]
  | cons r R => rw [mrg, if_neg (by simp [h r (by simp)]), mrg_nil_left]
theorem mrg_one_right {y : α} {L : List α} (h : ∀ l ∈ L, lt y l = true) : mrg lt L [y] = y :: L := by
  cases L with
  | nil => simp [mrg]
  | cons l L => rw [mrg, if_pos (h l (by simp)), mrg_nil_right]

/-- no later one is less than an earlier one -/
def Sorted (lt : α → α → Bool) (xs : List α) : Prop := xs.Pairwise fun x y => lt y x = false

theorem sorted_mrg (hw : Swo lt) : ∀ (n : Nat) (L R : List α), L.length + R.length ≤ n → Sorted lt L → Sorted lt R → Sorted lt (mrg lt L R)
  | _, [], R, _, _, h => by simpa [mrg] using h
  | _, l :: L, [], _, h, _ => by simpa [mrg] using h
  | 0, l :: L, r :: R, h, _, _ => by simp at h
  | n + 1, l :: L, r :: R, h, hL, hR => by
    simp only [List.length_cons] at h
    rw [mrg]
    split
    · rename_i hlt
      refine List.pairwise_cons.2 ⟨fun x hx => ?_, sorted_mrg hw n (l :: L) R (by simp; omega) hL (List.pairwise_cons.1 hR).2⟩
      rcases mem_mrg.1 hx with hx | hx
      · have h1 := hw.asym r l hlt
        rcases List.mem_cons.1 hx with rfl | hx
        · exact h1
        · exact hw.neg x l r ((List.pairwise_cons.1 hL).1 x hx) h1
      · exact (List.pairwise_cons.1 hR).1 x hx
    · rename_i hlt
      refine List.pairwise_cons.2 ⟨fun x hx => ?_, sorted_mrg hw n L (r :: R) (by simp; omega) (List.pairwise_cons.1 hL).2 hR⟩
      have h1 : lt r l = false := by simpa using hlt
      rcases mem_mrg.1 hx with hx | hx
      · exact (List.pairwise_cons.1 hL).1 x hx
      · rcases List.mem_cons.1 hx with rfl | hx
        · exact h1
        · exact hw.neg x r l ((List.pairwise_cons.1 hR).1 x hx) h1

/-- insertion from the right: behind the last one that it is not less than -/
def insRev (lt : α → α → Bool) (x : α) : List α → List α
  | [] => [x]
  | y :: ys => if lt x y then y :: insRev lt x ys else x :: y :: ys
def ins (lt : α → α → Bool) (x : α) (ys : List α) : List α := (insRev lt x ys.reverse).reverse
def isort (lt : α → α → Bool) (xs : List α) : List α := xs.foldl (fun acc x => ins lt x acc) []
theorem insRev_split {x : α} : ∀ {Q P : List α}, (∀ q ∈ Q, lt x q = true) → (∀ p, P.head? = some p → lt x p = false) → insRev lt x (Q ++ P) = Q ++ x :: P
  | [], [], _, _ => rfl
  | [], p :: P, _, h => by simp [insRev, h p rfl]
  | q :: Q, P, h1, h2 => by
    rw [List.cons_append, insRev, if_pos (h1 q (by simp)), insRev_split (fun q hq => h1 q (by simp [hq])) h2, List.cons_append]
theorem ins_split {x : α} {P Q : List α} (h1 : ∀ q ∈ Q, lt x q = true) (h2 : ∀ p, P.getLast? = some p → lt x p = false) : ins lt x (P ++ Q) = P ++ x :: Q := by
  unfold ins
  rw [List.reverse_append, insRev_split (fun q hq => h1 q (by simpa using hq)) (fun p hp => h2 p (by simpa using hp))]
  simp
theorem isort_snoc (xs : List α) (x : α) : isort lt (xs ++ [x]) = ins lt x (isort lt xs) := by simp [isort]
theorem isort_nil : isort lt ([] : List α) = [] := rfl
theorem insRev_perm (x : α) : ∀ ys : List α, (insRev lt x ys).Perm (x :: ys)
  | [] => List.Perm.refl _
  | y :: ys => by
    rw [insRev]
    split
    · exact (List.Perm.cons y (insRev_perm x ys)).trans (List.Perm.swap x y ys)
    · exact List.Perm.refl _
theorem ins_perm (x : α) (ys : List α) : (ins lt x ys).Perm (x :: ys) := by
  unfold ins
  refine (List.reverse_perm _).trans ((insRev_perm x _).trans ?_)
  exact List.Perm.cons x (List.reverse_perm ys)
theorem snoc_ind {motive : List α → Prop} (h0 : motive []) (h1 : ∀ xs x, motive xs → motive (xs ++ [x])) (xs : List α) : motive xs := by
  rw [← List.reverse_reverse xs]
  generalize xs.reverse = ys
  induction ys with
  | nil => exact h0
  | cons y ys ih => rw [List.reverse_cons]; exact h1 _ _ ih
theorem isort_perm (xs : List α) : (isort lt xs).Perm xs := by
  induction xs using snoc_ind with
  | h0 => exact List.Perm.refl _
  | h1 xs x ih =>
    rw [isort_snoc]
    exact (ins_perm x _).trans ((List.Perm.cons x ih).trans (List.perm_append_singleton x xs).symm)
theorem isort_length (xs : List α) : (isort lt xs).length = xs.length := (isort_perm xs).length_eq

/-- a sorted list, parted at x -/
theorem parted (hw : Swo lt) (x : α) {xs : List α} (hs : Sorted lt xs) : ∃ P Q, xs = P ++ Q ∧ (∀ p ∈ P, lt x p = false) ∧ (∀ q ∈ Q, lt x q = true) := by
  induction xs with
  | nil => exact ⟨[], [], rfl, by simp, by simp⟩
  | cons y ys ih =>
    obtain ⟨P, Q, rfl, h1, h2⟩ := ih (List.pairwise_cons.1 hs).2
    by_cases h : lt x y = true
    · refine ⟨[], y :: (P ++ Q), rfl, by simp, fun q hq => ?_⟩
      rcases List.mem_cons.1 hq with rfl | hq
      · exact h
      · rcases List.mem_append.1 hq with hq | hq
        · cases hc : lt x q with
          | true => rfl
          | false =>
            have := hw.neg x q y hc ((List.pairwise_cons.1 hs).1 q (by simp [hq]))
            rw [h] at this; cases this
        · exact h2 q hq
    · refine ⟨y :: P, Q, rfl, fun p hp => ?_, h2⟩
      rcases List.mem_cons.1 hp with rfl | hp
      · simpa using h
      · exact h1 p hp
theorem ins_parted {x : α} {P Q : List α} (h1 : ∀ p ∈ P, lt x p = false) (h2 : ∀ q ∈ Q, lt x q = true) : ins lt x (P ++ Q) = P ++ x :: Q :=
  ins_split h2 fun p hp => h1 p (List.mem_of_getLast? hp)
theorem ins_sorted (hw : Swo lt) {x : α} {xs : List α} (hs : Sorted lt xs) : Sorted lt (ins lt x xs) := by
  obtain ⟨P, Q, rfl, h1, h2⟩ := parted hw x hs
  rw [ins_parted h1 h2]
  have h3 := List.pairwise_append.1 hs
  refine List.pairwise_append.2 ⟨h3.1, List.pairwise_cons.2 ⟨fun q hq => hw.asym x q (h2 q hq), h3.2.1⟩, fun p hp q hq => ?_⟩
  rcases List.mem_cons.1 hq with rfl | hq
  · exact h1 p hp
  · exact h3.2.2 p hp q hq
theorem isort_sorted (hw : Swo lt) (xs : List α) : Sorted lt (isort lt xs) := by
  induction xs using snoc_ind with
  | h0 => exact List.Pairwise.nil
  | h1 xs x ih => rw [isort_snoc]; exact ins_sorted hw ih
theorem mrg_ins (hw : Swo lt) {x : α} {L R : List α} (hL : Sorted lt L) (hR : Sorted lt R) : mrg lt L (ins lt x R) = ins lt x (mrg lt L R) := by
  obtain ⟨PA, QA, rfl, a1, a2⟩ := parted hw x hL
  obtain ⟨PB, QB, rfl, b1, b2⟩ := parted hw x hR
  have lo : ∀ p q, lt x p = false → lt x q = true → lt p q = true := fun p q hp hq => by
    cases hc : lt p q with
    | true => rfl
    | false => have := hw.neg x p q hp hc; rw [hq] at this; cases this
  have lo' : ∀ p q, lt x p = false → lt x q = true → lt q p = false := fun p q hp hq => hw.asym p q (lo p q hp hq)
  rw [mrg_parts (L1 := PA) (L2 := QA) (R1 := PB) (R2 := QB) (fun r hr l hl => lo r l (b1 r hr) (a2 l hl)) (fun l hl r hr => lo' l r (a1 l hl) (b2 r hr))]
  rw [ins_parted b1 b2, show PB ++ x :: QB = (PB ++ [x]) ++ QB by simp]
  rw [mrg_parts (L1 := PA) (L2 := QA) (R1 := PB ++ [x]) (R2 := QB) (fun r hr l hl => by
    rcases List.mem_append.1 hr with hr | hr
    · exact lo r l (b1 r hr) (a2 l hl)
    · simp at hr; subst hr; exact a2 l hl) (fun l hl r hr => lo' l r (a1 l hl) (b2 r hr))]
  have e : mrg lt PA (PB ++ [x]) = mrg lt PA PB ++ [x] := by
    have := mrg_parts (lt := lt) (L1 := PA) (L2 := []) (R1 := PB) (R2 := [x]) (fun r _ l hl => by simp at hl) (fun l hl r hr => by simp at hr; subst hr; exact a1 l hl)
    simpa [mrg_nil_left] using this
  rw [e, ins_parted (P := mrg lt PA PB) (Q := mrg lt QA QB) (fun p hp => by rcases mem_mrg.1 hp with h | h; exact a1 p h; exact b1 p h) (fun q hq => by rcases mem_mrg.1 hq with h | h; exact a2 q h; exact b2 q h)]
  simp
theorem mrg_isort (hw : Swo lt) (A B : List α) : mrg lt (isort lt A) (isort lt B) = isort lt (A ++ B) := by
  induction B using snoc_ind with
  | h0 => simp [isort_nil, mrg_nil_right]
  | h1 xs x ih => rw [isort_snoc, mrg_ins hw (isort_sorted hw A) (isort_sorted hw xs), ih, ← List.append_assoc, isort_snoc]
end order
end Srt
end Go.Proofs.Ytocmchlhbniloaa
