/-
  Plain lists: what slices' in-place loops do (exchanging, rotating, insertion, binary search). No program.
-/
import Derived.Test.YtocmchlhbniloaaSort
set_option linter.unusedSimpArgs false
set_option linter.unusedSectionVars false
namespace Go.Proofs.Ytocmchlhbniloaa
namespace Srt
open B
variable {α : Type} [Inhabited α]

/-- exchange the elements at i and j -/
def swp (xs : List α) (i j : Int) : List α := (xs.set i.toNat (nth xs j)).set j.toNat (nth xs i)
theorem swp_len (xs : List α) (i j : Int) : (swp xs i j).length = xs.length := by simp [swp]
theorem nth_app {A B : List α} {x : α} {i : Int} (h : A.length = i.toNat) : nth (A ++ x :: B) i = x := by
  simp [nth, List.getD, List.getElem?_append_right (show A.length ≤ i.toNat by omega), h]
theorem swp_lt {A M C : List α} {x y : α} {i j : Int} (hi : A.length = i.toNat) (hj : A.length + 1 + M.length = j.toNat) : swp (A ++ x :: (M ++ y :: C)) i j = A ++ y :: (M ++ x :: C) := by
  have e1 : nth (A ++ x :: (M ++ y :: C)) i = x := nth_app hi
  have e2 : nth (A ++ x :: (M ++ y :: C)) j = y := by
    have := nth_app (A := A ++ x :: M) (B := C) (x := y) (i := j) (by simp; omega)
    simpa using this
  unfold swp
  rw [e1, e2, ← hi, ← hj]
  rw [List.set_append_right _ _ (Nat.le_refl _)]
  simp only [Nat.sub_self, List.set_cons_zero]
  rw [List.set_append_right _ _ (by omega), show A.length + 1 + M.length - A.length = M.length + 1 by omega]
  simp only [List.set_cons_succ]
  rw [List.set_append_right _ _ (Nat.le_refl _)]
  simp
theorem swp_gt {A M C : List α} {x y : α} {i j : Int} (hi : A.length = i.toNat) (hj : A.length + 1 + M.length = j.toNat) : swp (A ++ x :: (M ++ y :: C)) j i = A ++ y :: (M ++ x :: C) := by
  have e1 : nth (A ++ x :: (M ++ y :: C)) i = x := nth_app hi
  have e2 : nth (A ++ x :: (M ++ y :: C)) j = y := by
    have := nth_app (A := A ++ x :: M) (B := C) (x := y) (i := j) (by simp; omega)
    simpa using this
  unfold swp
  rw [e1, e2, ← hi, ← hj]
  rw [List.set_append_right _ _ (by omega), show A.length + 1 + M.length - A.length = M.length + 1 by omega]
  simp only [List.set_cons_succ]
  rw [List.set_append_right _ _ (Nat.le_refl _)]
  simp only [Nat.sub_self, List.set_cons_zero]
  rw [List.set_append_right _ _ (Nat.le_refl _)]
  simp

/-- exchange so many from a and from b on -/
def swR (xs : List α) (a b : Nat) : Nat → List α
  | 0 => xs
  | n + 1 => swp (swR xs a b n) ((a : Int) + n) ((b : Int) + n)
theorem swR_len (xs : List α) (a b n : Nat) : (swR xs a b n).length = xs.length := by
  induction n with
  | zero => rfl
  | succ n ih => rw [swR, swp_len, ih]
theorem drop_cons {xs : List α} {n : Nat} (h : n < xs.length) : xs.drop n = nth xs (n : Int) :: xs.drop (n + 1) := by
  rw [List.drop_eq_getElem_cons h]
  simp [nth, List.getD, List.getElem?_eq_getElem h]
theorem take_snoc' {xs : List α} {k : Nat} (h : k < xs.length) : xs.take (k + 1) = xs.take k ++ [nth xs (k : Int)] := by
  rw [List.take_succ_eq_append_getElem h]
  simp [nth, List.getD, List.getElem?_eq_getElem h]
theorem swR_spec {A U M V B : List α} {a b k : Nat} (hA : A.length = a) (hU : U.length = k) (hV : V.length = k) (hM : A.length + k + M.length = b) :
    ∀ n, n ≤ k → swR (A ++ (U ++ (M ++ (V ++ B)))) a b n = A ++ (V.take n ++ (U.drop n ++ (M ++ (U.take n ++ (V.drop n ++ B))))) := by
  intro n
  induction n with
  | zero => intro _; simp [swR]
  | succ n ih =>
    intro hn
    rw [swR, ih (by omega), drop_cons (xs := U) (by omega), drop_cons (xs := V) (by omega), take_snoc' (xs := U) (by omega), take_snoc' (xs := V) (by omega)]
    have := swp_lt (A := A ++ V.take n) (M := U.drop (n + 1) ++ (M ++ U.take n)) (C := V.drop (n + 1) ++ B) (x := nth U (n : Int)) (y := nth V (n : Int)) (i := (a : Int) + n) (j := (b : Int) + n)
      (by simp; omega) (by simp; omega)
    simpa using this
theorem swR_whole {A U M V B : List α} {a b k : Nat} (hA : A.length = a) (hU : U.length = k) (hV : V.length = k) (hM : A.length + k + M.length = b) :
    swR (A ++ (U ++ (M ++ (V ++ B)))) a b k = A ++ (V ++ (M ++ (U ++ B))) := by
  rw [swR_spec hA hU hV hM k (Nat.le_refl _)]
  simp [List.take_of_length_le (show U.length ≤ k by omega), List.take_of_length_le (show V.length ≤ k by omega), List.drop_of_length_le (show U.length ≤ k by omega), List.drop_of_length_le (show V.length ≤ k by omega)]

/-- rotation, as slices does it -/
def rotG : Nat → List α → Nat → Nat → Nat → List α
  | 0, xs, m, i, _ => swR xs (m - i) m i
  | f + 1, xs, m, i, j => if i = j then swR xs (m - i) m i else if j < i then rotG f (swR xs (m - i) m j) m (i - j) j else rotG f (swR xs (m - i) (m + j - i) i) m i (j - i)
theorem rotG_spec : ∀ (f : Nat) (A U V B : List α) (m i j : Nat), U.length = i → V.length = j → A.length + i = m → 1 ≤ i → 1 ≤ j → i + j ≤ f + 2 →
    rotG f (A ++ (U ++ (V ++ B))) m i j = A ++ (V ++ (U ++ B)) := by
  intro f
  induction f with
  | zero =>
    intro A U V B m i j hU hV hm hi hj hf
    obtain rfl : i = 1 := by omega
    obtain rfl : j = 1 := by omega
    rw [rotG]
    have := swR_whole (A := A) (U := U) (M := []) (V := V) (B := B) (a := m - 1) (b := m) (k := 1) (by omega) hU hV (by simp; omega)
    simpa using this
  | succ f ih =>
    intro A U V B m i j hU hV hm hi hj hf
    rw [rotG]
    split
    · rename_i h
      subst h
      have := swR_whole (A := A) (U := U) (M := []) (V := V) (B := B) (a := m - i) (b := m) (k := i) (by omega) hU hV (by simp; omega)
      simpa using this
    · split
      · rename_i h0 h
        have eU : U = U.take j ++ U.drop j := (List.take_append_drop j U).symm
        have h1 := swR_whole (A := A) (U := U.take j) (M := U.drop j) (V := V) (B := B) (a := m - i) (b := m) (k := j) (by omega) (by simp; omega) hV (by simp; omega)
        have e : A ++ (U ++ (V ++ B)) = A ++ (U.take j ++ (U.drop j ++ (V ++ B))) := by rw [← List.append_assoc (List.take j U), ← eU]
        rw [e, h1]
        have h2 := ih (A ++ V) (U.drop j) (U.take j) B m (i - j) j (by simp; omega) (by simp; omega) (by simp; omega) (by omega) hj (by omega)
        simp only [List.append_assoc] at h2
        rw [h2, ← List.append_assoc (List.take j U), ← eU]
      · rename_i h0 h
        have eV : V = V.take (j - i) ++ V.drop (j - i) := (List.take_append_drop (j - i) V).symm
        have h1 := swR_whole (A := A) (U := U) (M := V.take (j - i)) (V := V.drop (j - i)) (B := B) (a := m - i) (b := m + j - i) (k := i) (by omega) hU (by simp; omega) (by simp; omega)
        have e : A ++ (U ++ (V ++ B)) = A ++ (U ++ (V.take (j - i) ++ (V.drop (j - i) ++ B))) := by rw [← List.append_assoc (List.take (j - i) V), ← eV]
        rw [e, h1]
        have h2 := ih A (V.drop (j - i)) (V.take (j - i)) (U ++ B) m i (j - i) (by simp; omega) (by simp; omega) hm hi (by omega) (by omega)
        rw [h2, ← List.append_assoc (List.take (j - i) V), ← eV]
theorem rotG_same (f : Nat) (xs : List α) (m i : Nat) : rotG f xs m i i = swR xs (m - i) m i := by
  cases f <;> simp [rotG]
theorem rotG_gt {f : Nat} {xs : List α} {m i j : Nat} (h : j < i) (hf : 1 ≤ f) : rotG f xs m i j = rotG (f - 1) (swR xs (m - i) m j) m (i - j) j := by
  obtain ⟨f, rfl⟩ : ∃ f', f = f' + 1 := ⟨f - 1, by omega⟩
  rw [rotG, if_neg (by omega), if_pos h]
  rfl
theorem rotG_lt {f : Nat} {xs : List α} {m i j : Nat} (h : i < j) (hf : 1 ≤ f) : rotG f xs m i j = rotG (f - 1) (swR xs (m - i) (m + j - i) i) m i (j - i) := by
  obtain ⟨f, rfl⟩ : ∃ f', f = f' + 1 := ⟨f - 1, by omega⟩
  rw [rotG, if_neg (by omega), if_neg (by omega)]
  rfl
/-- the stretches a to m and m to b change places -/
def rotF (xs : List α) (a m b : Nat) : List α := xs.take a ++ seg xs m b ++ seg xs a m ++ xs.drop b
theorem rotG_eq {xs : List α} {a m b f : Nat} (h1 : a < m) (h2 : m < b) (h3 : b ≤ xs.length) (hf : b - a ≤ f + 2) : rotG f xs m (m - a) (b - m) = rotF xs a m b := by
  have e : xs = xs.take a ++ (seg xs a m ++ (seg xs m b ++ xs.drop b)) := by
    conv => lhs; rw [split3 (xs := xs) (i := a) (j := b) (by omega), seg_append (j := m) (by omega) (by omega)]
    simp
  conv => lhs; rw [e]
  rw [rotG_spec f _ _ _ _ m (m - a) (b - m) (seg_len (by omega)) (seg_len h3) (by simp; omega) (by omega) (by omega) (by omega)]
  simp [rotF]
theorem rotF_len {xs : List α} {a m b : Nat} (h1 : a ≤ m) (h2 : m ≤ b) (h3 : b ≤ xs.length) : (rotF xs a m b).length = xs.length := by
  simp [rotF, seg_len h3, seg_len (show m ≤ xs.length by omega)]; omega
theorem rotF_triv {xs : List α} {a m b : Nat} (h1 : a ≤ m) (h2 : m ≤ b) (h : ¬ (a < m ∧ m < b)) : rotF xs a m b = xs := by
  have : a = m ∨ m = b := by omega
  rcases this with rfl | rfl
  · rw [rotF, seg_self, List.append_nil]; exact (split3 h2).symm
  · rw [rotF, seg_self, List.append_nil]; exact (split3 h1).symm

section order
variable (lt : α → α → Bool)
/-- move the element at j down to its place, not below a -/
def bub (a : Nat) : Nat → List α → List α
  | 0, xs => xs
  | j + 1, xs => if a < j + 1 ∧ lt (nth xs ((j : Int) + 1)) (nth xs (j : Int)) = true then bub a j (swp xs ((j : Int) + 1) (j : Int)) else xs
variable {lt}
theorem bub_len (a : Nat) : ∀ (j : Nat) (xs : List α), (bub lt a j xs).length = xs.length
  | 0, _ => rfl
  | j + 1, xs => by
    rw [bub]
    split
    · rw [bub_len a j, swp_len]
    · rfl
theorem bub_step {a j : Nat} {xs : List α} (h1 : a < j) (h2 : lt (nth xs (j : Int)) (nth xs ((j : Int) - 1)) = true) : bub lt a j xs = bub lt a (j - 1) (swp xs (j : Int) ((j : Int) - 1)) := by
  obtain ⟨j, rfl⟩ : ∃ j', j = j' + 1 := ⟨j - 1, by omega⟩
  have e : ((j + 1 : Nat) : Int) - 1 = (j : Int) := by omega
  have e2 : ((j + 1 : Nat) : Int) = (j : Int) + 1 := by omega
  rw [e, e2] at h2
  rw [bub, if_pos ⟨h1, h2⟩, e, e2]
  rfl
theorem bub_stop {a j : Nat} {xs : List α} (h : ¬ (a < j ∧ lt (nth xs (j : Int)) (nth xs ((j : Int) - 1)) = true)) : bub lt a j xs = xs := by
  cases j with
  | zero => rfl
  | succ j =>
    have e : ((j + 1 : Nat) : Int) - 1 = (j : Int) := by omega
    have e2 : ((j + 1 : Nat) : Int) = (j : Int) + 1 := by omega
    rw [e, e2] at h
    rw [bub, if_neg h]
theorem bub_spec {A D : List α} {x : α} {a : Nat} (hA : A.length = a) : ∀ (n : Nat) (P Q : List α), P.length = n → (∀ q ∈ Q, lt x q = true) → bub lt a (a + n) (A ++ (P ++ x :: (Q ++ D))) = A ++ (ins lt x (P ++ Q) ++ D) := by
  intro n
  induction n with
  | zero =>
    intro P Q hP hQ
    obtain rfl : P = [] := List.eq_nil_of_length_eq_zero hP
    rw [bub_stop (by omega), ins_split hQ (by simp)]
    simp
  | succ n ih =>
    intro P Q hP hQ
    obtain ⟨P', y, rfl⟩ : ∃ P' y, P = P' ++ [y] := ⟨P.dropLast, P.getLast (by intro e; simp [e] at hP), (List.dropLast_concat_getLast _).symm⟩
    simp at hP
    have e1 : nth (A ++ (P' ++ [y] ++ x :: (Q ++ D))) ((a + (n + 1) : Nat) : Int) = x := by
      have := nth_app (A := A ++ (P' ++ [y])) (B := Q ++ D) (x := x) (i := ((a + (n + 1) : Nat) : Int)) (by simp; omega)
      simpa using this
    have e2 : nth (A ++ (P' ++ [y] ++ x :: (Q ++ D))) (((a + (n + 1) : Nat) : Int) - 1) = y := by
      have := nth_app (A := A ++ P') (B := x :: (Q ++ D)) (x := y) (i := ((a + (n + 1) : Nat) : Int) - 1) (by simp; omega)
      simpa using this
    by_cases h : lt x y = true
    · rw [bub_step (by omega) (by rw [e1, e2]; exact h)]
      have h1 := swp_gt (A := A ++ P') (M := []) (C := Q ++ D) (x := y) (y := x) (i := ((a + (n + 1) : Nat) : Int) - 1) (j := ((a + (n + 1) : Nat) : Int)) (by simp; omega) (by simp; omega)
      have h2 : swp (A ++ (P' ++ [y] ++ x :: (Q ++ D))) ((a + (n + 1) : Nat) : Int) (((a + (n + 1) : Nat) : Int) - 1) = A ++ (P' ++ x :: ((y :: Q) ++ D)) := by simpa using h1
      rw [h2, show a + (n + 1) - 1 = a + n by omega, ih P' (y :: Q) hP (fun q hq => by rcases List.mem_cons.1 hq with rfl | hq; exact h; exact hQ q hq)]
      simp
    · rw [bub_stop (by rw [e1, e2]; exact fun hh => h hh.2), ins_split hQ (fun p hp => by simp at hp; subst hp; simpa using h)]
      simp
variable (lt)
def insSeq (a : Nat) : Nat → List α → List α
  | 0, xs => xs
  | n + 1, xs => bub lt a (a + 1 + n) (insSeq a n xs)
variable {lt}
theorem insSeq_len (a : Nat) : ∀ (n : Nat) (xs : List α), (insSeq lt a n xs).length = xs.length
  | 0, _ => rfl
  | n + 1, xs => by rw [insSeq, bub_len, insSeq_len a n]
theorem seg_snoc {xs : List α} {i j : Nat} (h1 : i ≤ j) (h2 : j < xs.length) : seg xs i (j + 1) = seg xs i j ++ [nth xs (j : Int)] := by
  rw [seg_append (j := j) h1 (by omega)]
  congr 1
  unfold seg
  rw [drop_cons h2, show j + 1 - j = 1 by omega]
  simp
theorem insSeq_spec {xs : List α} {a : Nat} : ∀ n, a + 1 + n ≤ xs.length → insSeq lt a n xs = xs.take a ++ (isort lt (seg xs a (a + 1 + n)) ++ xs.drop (a + 1 + n)) := by
  intro n
  induction n with
  | zero =>
    intro h
    rw [insSeq, Nat.add_zero, seg_snoc (Nat.le_refl _) (by omega), seg_self, List.nil_append]
    have : isort lt [nth xs (a : Int)] = [nth xs (a : Int)] := rfl
    rw [this]
    conv => lhs; rw [← List.take_append_drop a xs, drop_cons (show a < xs.length by omega)]
    simp
  | succ n ih =>
    intro h
    rw [insSeq, ih (by omega), drop_cons (show a + 1 + n < xs.length by omega)]
    have hl : (isort lt (seg xs a (a + 1 + n))).length = n + 1 := by rw [isort_length, seg_len (by omega)]; omega
    have := bub_spec (lt := lt) (A := xs.take a) (D := xs.drop (a + 1 + n + 1)) (x := nth xs ((a + 1 + n : Nat) : Int)) (a := a) (by simp; omega) (n + 1) (isort lt (seg xs a (a + 1 + n))) [] hl (by simp)
    simp only [List.nil_append, List.append_nil] at this
    rw [show a + 1 + n = a + (n + 1) by omega] at this ⊢
    rw [this, show a + 1 + (n + 1) = a + (n + 1) + 1 by omega, seg_snoc (show a ≤ a + (n + 1) by omega) (by omega), isort_snoc]
/-- the stretch a to b sorted by insertion -/
def insF (lt : α → α → Bool) (xs : List α) (a b : Nat) : List α := xs.take a ++ (isort lt (seg xs a b) ++ xs.drop b)
theorem insF_len {xs : List α} {a b : Nat} (h1 : a ≤ b) (h2 : b ≤ xs.length) : (insF lt xs a b).length = xs.length := by
  simp [insF, isort_length, seg_len h2]; omega
theorem insSeq_eq {xs : List α} {a b : Nat} (h1 : a ≤ b) (h2 : b ≤ xs.length) : insSeq lt a (b - (a + 1)) xs = insF lt xs a b := by
  by_cases h : a = b
  · subst h
    rw [show a - (a + 1) = 0 by omega, insSeq, insF, seg_self, isort_nil, List.nil_append, List.take_append_drop]
  · rw [insSeq_spec _ (by omega), insF, show a + 1 + (b - (a + 1)) = b by omega]
/-- two sorted stretches put together -/
def mF (lt : α → α → Bool) (xs : List α) (a m b : Nat) : List α := xs.take a ++ (mrg lt (seg xs a m) (seg xs m b) ++ xs.drop b)
theorem mF_len {xs : List α} {a m b : Nat} (h1 : a ≤ m) (h2 : m ≤ b) (h3 : b ≤ xs.length) : (mF lt xs a m b).length = xs.length := by
  simp [mF, mrg_len, seg_len h3, seg_len (show m ≤ xs.length by omega)]; omega
theorem mF_triv {xs : List α} {a m b : Nat} (h1 : a ≤ m) (h2 : m ≤ b) (h : ¬ (a < m ∧ m < b)) : mF lt xs a m b = xs := by
  have : a = m ∨ m = b := by omega
  rcases this with rfl | rfl
  · rw [mF, seg_self, mrg_nil_left, ← List.append_assoc]; exact (split3 h2).symm
  · rw [mF, seg_self, mrg_nil_right, ← List.append_assoc]; exact (split3 h1).symm
end order
end Srt
end Go.Proofs.Ytocmchlhbniloaa
