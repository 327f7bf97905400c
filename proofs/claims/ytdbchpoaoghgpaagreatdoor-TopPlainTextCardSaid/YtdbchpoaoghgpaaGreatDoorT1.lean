/-
  What two lists of bytes begin and end with alike: plain facts.
-/
import Derived.Test.YtdbchpoaoghgpaaGreatDoorBa
import Derived.Test.YtdbchpoaoghgpaaGreatDoorBc
set_option linter.unusedSimpArgs false
set_option linter.unusedVariables false
namespace Go.Proofs.YtdbchpoaoghgpaaGreatDoor
namespace X

def lcpL : List UInt8 → List UInt8 → Nat
  | a :: l, b :: m => if a = b then lcpL l m + 1 else 0
  | _, _ => 0
theorem lcp_le1 : ∀ {l m : List UInt8}, lcpL l m ≤ l.length
  | [], m => by cases m <;> simp [lcpL]
  | a :: l, [] => by simp [lcpL]
  | a :: l, b :: m => by
    simp only [lcpL]; split
    · have := lcp_le1 (l := l) (m := m); simp only [List.length_cons]; omega
    · omega
theorem lcp_le2 : ∀ {l m : List UInt8}, lcpL l m ≤ m.length
  | [], m => by cases m <;> simp [lcpL]
  | a :: l, [] => by simp [lcpL]
  | a :: l, b :: m => by
    simp only [lcpL]; split
    · have := lcp_le2 (l := l) (m := m); simp only [List.length_cons]; omega
    · omega
theorem lcp_take : ∀ {l m : List UInt8}, l.take (lcpL l m) = m.take (lcpL l m)
  | [], m => by cases m <;> simp [lcpL]
  | a :: l, [] => by simp [lcpL]
  | a :: l, b :: m => by
    simp only [lcpL]; split
    · rename_i h; subst h; simp only [List.take_succ_cons, lcp_take (l := l) (m := m)]
    · simp
theorem lcp_app : ∀ {p l m : List UInt8}, p.length ≤ lcpL (p ++ l) (p ++ m)
  | [], l, m => by simp
  | a :: p, l, m => by
    have := lcp_app (p := p) (l := l) (m := m)
    simp only [List.cons_append, lcpL, List.length_cons, if_true]; omega
theorem lcp_stop {l m : List UInt8} {i : Nat} (h : l.length ≤ i ∨ m.length ≤ i) : lcpL (l.drop i) (m.drop i) = 0 := by
  rcases h with h | h
  · rw [List.drop_eq_nil_of_le h]; cases m.drop i <;> rfl
  · rw [List.drop_eq_nil_of_le h]; cases l.drop i <;> rfl
theorem lcp_step {l m : List UInt8} {i : Nat} (h1 : i < l.length) (h2 : i < m.length) (h : l[i] = m[i]) : lcpL (l.drop i) (m.drop i) = lcpL (l.drop (i + 1)) (m.drop (i + 1)) + 1 := by
  rw [List.drop_eq_getElem_cons h1, List.drop_eq_getElem_cons h2, lcpL, if_pos h]
theorem lcp_ne {l m : List UInt8} {i : Nat} (h1 : i < l.length) (h2 : i < m.length) (h : l[i] ≠ m[i]) : lcpL (l.drop i) (m.drop i) = 0 := by
  rw [List.drop_eq_getElem_cons h1, List.drop_eq_getElem_cons h2, lcpL, if_neg h]

/-- what both begin with; then: what both end with -/
def frF (l m : List UInt8) : Nat := lcpL l m
def enF (l m : List UInt8) : Nat := lcpL (l.drop (frF l m)).reverse (m.drop (frF l m)).reverse
theorem en_le1 {l m : List UInt8} : frF l m + enF l m ≤ l.length := by
  have h1 : frF l m ≤ l.length := lcp_le1
  have h2 : enF l m ≤ (l.drop (frF l m)).reverse.length := lcp_le1
  simp only [List.length_reverse, List.length_drop] at h2
  omega
theorem en_le2 {l m : List UInt8} : frF l m + enF l m ≤ m.length := by
  have h1 : frF l m ≤ m.length := lcp_le2
  have h2 : enF l m ≤ (m.drop (frF l m)).reverse.length := lcp_le2
  simp only [List.length_reverse, List.length_drop] at h2
  omega
theorem fr_take {l m : List UInt8} : l.take (frF l m) = m.take (frF l m) := lcp_take
theorem en_drop {l m : List UInt8} : l.drop (l.length - enF l m) = m.drop (m.length - enF l m) := by
  have h1 := en_le1 (l := l) (m := m)
  have h2 := en_le2 (l := l) (m := m)
  have h : (l.drop (frF l m)).reverse.take (enF l m) = (m.drop (frF l m)).reverse.take (enF l m) := lcp_take
  rw [List.take_reverse, List.take_reverse] at h
  have h := List.reverse_inj.1 h
  simp only [List.length_drop, List.drop_drop] at h
  rw [show frF l m + (l.length - frF l m - enF l m) = l.length - enF l m by omega, show frF l m + (m.length - frF l m - enF l m) = m.length - enF l m by omega] at h
  exact h
/-- the middle of a list, of two -/
def midF (l m : List UInt8) : List UInt8 := (l.drop (frF l m)).take (l.length - frF l m - enF l m)
def midG (l m : List UInt8) : List UInt8 := (m.drop (frF l m)).take (m.length - frF l m - enF l m)
theorem three {l : List UInt8} {f e : Nat} (h : f + e ≤ l.length) : l.take f ++ (l.drop f).take (l.length - f - e) ++ l.drop (l.length - e) = l := by
  have h1 : (l.drop f).drop (l.length - f - e) = l.drop (l.length - e) := by rw [List.drop_drop]; congr 1; omega
  rw [List.append_assoc, ← h1, List.take_append_drop, List.take_append_drop]
theorem mid_was {l m : List UInt8} : l.take (frF l m) ++ midF l m ++ l.drop (l.length - enF l m) = l := three en_le1
theorem mid_now {l m : List UInt8} : l.take (frF l m) ++ midG l m ++ l.drop (l.length - enF l m) = m := by
  rw [fr_take, en_drop]; exact three en_le2
theorem mid_len1 {l m : List UInt8} : (l.take (frF l m)).length = frF l m := by
  have := en_le1 (l := l) (m := m)
  rw [List.length_take]; omega
theorem mid_len2 {l m : List UInt8} : (midF l m).length = l.length - frF l m - enF l m := by
  have := en_le1 (l := l) (m := m)
  unfold midF; rw [List.length_take, List.length_drop]; omega
theorem mid_len3 {l m : List UInt8} : (l.drop (l.length - enF l m)).length = enF l m := by
  have := en_le1 (l := l) (m := m)
  rw [List.length_drop]; omega
end X
end Go.Proofs.YtdbchpoaoghgpaaGreatDoor

set_option linter.unusedSimpArgs false
set_option linter.unusedVariables false
namespace Go.Proofs.YtdbchpoaoghgpaaGreatDoor
namespace B
open Go.RowKit
theorem byteAt_get {s : ByteArray} {i : Nat} (h : i < s.data.toList.length) : byteAt s (i : Int) = ((s.data.toList[i]).toNat : Int) := by
  unfold byteAt
  simp only [Int.toNat_natCast, List.getD_eq_getElem?_getD, List.getElem?_eq_getElem h, Option.getD_some]
theorem byte_inj {a b : UInt8} (h : (a.toNat : Int) = (b.toNat : Int)) : a = b := UInt8.toNat_inj.1 (by omega)
theorem lsz (s : ByteArray) : s.data.toList.length = s.size := by simp
theorem turn_n1 {s t : ByteArray} {i n : Nat} (q : n = i + X.lcpL (s.data.toList.drop i) (t.data.toList.drop i)) (h : ((i : Int) < (s.size : Int) ∧ (i : Int) < (t.size : Int)) ∧ byteAt s (i : Int) = byteAt t (i : Int)) : n = i + 1 + X.lcpL (s.data.toList.drop (i + 1)) (t.data.toList.drop (i + 1)) := by
  obtain ⟨⟨h1, h2⟩, h3⟩ := h
  have l1 : i < s.data.toList.length := by rw [lsz]; omega
  have l2 : i < t.data.toList.length := by rw [lsz]; omega
  rw [byteAt_get l1, byteAt_get l2] at h3
  rw [q, X.lcp_step l1 l2 (byte_inj h3)]; omega
theorem turn_fr {s t : ByteArray} {i n : Nat} (q : n = i + X.lcpL (s.data.toList.drop i) (t.data.toList.drop i)) (h : ((s.size : Int) ≤ (i : Int) ∨ (t.size : Int) ≤ (i : Int)) ∨ ¬ byteAt s (i : Int) = byteAt t (i : Int)) : i = n := by
  have stop : s.size ≤ i ∨ t.size ≤ i → i = n := fun h => by
    rw [q, X.lcp_stop (by rw [lsz, lsz]; exact h)]; rfl
  by_cases hs : s.size ≤ i ∨ t.size ≤ i
  · exact stop hs
  · rcases h with h | h
    · exact stop (by omega)
    · have l1 : i < s.data.toList.length := by rw [lsz]; omega
      have l2 : i < t.data.toList.length := by rw [lsz]; omega
      rw [byteAt_get l1, byteAt_get l2] at h
      rw [q, X.lcp_ne l1 l2 (fun e => h (by rw [e]))]; rfl
theorem byteAt_rev {s : ByteArray} {i j : Nat} (h : i + j < s.size) : ∃ hl : j < (s.data.toList.drop i).reverse.length, byteAt s ((s.size : Int) - 1 - (j : Int)) = (((s.data.toList.drop i).reverse[j]).toNat : Int) := by
  have hz := lsz s
  have hl : j < (s.data.toList.drop i).reverse.length := by rw [List.length_reverse, List.length_drop]; omega
  refine ⟨hl, ?_⟩
  have l1 : s.size - 1 - j < s.data.toList.length := by omega
  rw [show (s.size : Int) - 1 - (j : Int) = ((s.size - 1 - j : Nat) : Int) by omega, byteAt_get l1]
  congr 2
  rw [List.getElem_reverse, List.getElem_drop]
  congr 1
  rw [List.length_drop]; omega
theorem turn_n2 {s t : ByteArray} {i j n : Nat} (q : n = j + X.lcpL ((s.data.toList.drop i).reverse.drop j) ((t.data.toList.drop i).reverse.drop j)) (h : ((j : Int) < (s.size : Int) - (i : Int) ∧ (j : Int) < (t.size : Int) - (i : Int)) ∧ byteAt s ((s.size : Int) - 1 - (j : Int)) = byteAt t ((t.size : Int) - 1 - (j : Int))) : n = j + 1 + X.lcpL ((s.data.toList.drop i).reverse.drop (j + 1)) ((t.data.toList.drop i).reverse.drop (j + 1)) := by
  obtain ⟨⟨h1, h2⟩, h3⟩ := h
  obtain ⟨l1, g1⟩ := byteAt_rev (s := s) (i := i) (j := j) (by omega)
  obtain ⟨l2, g2⟩ := byteAt_rev (s := t) (i := i) (j := j) (by omega)
  rw [g1, g2] at h3
  rw [q, X.lcp_step l1 l2 (byte_inj h3)]; omega
theorem turn_en {s t : ByteArray} {i j n : Nat} (q : n = j + X.lcpL ((s.data.toList.drop i).reverse.drop j) ((t.data.toList.drop i).reverse.drop j)) (h : ((s.size : Int) - (i : Int) ≤ (j : Int) ∨ (t.size : Int) - (i : Int) ≤ (j : Int)) ∨ ¬ byteAt s ((s.size : Int) - 1 - (j : Int)) = byteAt t ((t.size : Int) - 1 - (j : Int))) : j = n := by
  have stop : s.size ≤ i + j ∨ t.size ≤ i + j → j = n := fun h => by
    have h1 := lsz s
    have h2 := lsz t
    rw [q, X.lcp_stop (by rw [List.length_reverse, List.length_reverse, List.length_drop, List.length_drop]; omega)]; rfl
  by_cases hs : s.size ≤ i + j ∨ t.size ≤ i + j
  · exact stop hs
  · rcases h with h | h
    · exact stop (by omega)
    · obtain ⟨l1, g1⟩ := byteAt_rev (s := s) (i := i) (j := j) (by omega)
      obtain ⟨l2, g2⟩ := byteAt_rev (s := t) (i := i) (j := j) (by omega)
      rw [g1, g2] at h
      rw [q, X.lcp_ne l1 l2 (fun e => h (by rw [e]))]; rfl
end B
end Go.Proofs.YtdbchpoaoghgpaaGreatDoor
