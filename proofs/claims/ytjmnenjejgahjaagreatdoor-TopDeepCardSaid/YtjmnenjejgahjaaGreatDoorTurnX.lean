/-
  editor.turn: the loops' steps in plain words.
-/
import Derived.Test.YtjmnenjejgahjaaGreatDoorTurnP
import Derived.Test.YtjmnenjejgahjaaGreatDoorBaseS
set_option linter.unusedSimpArgs false
set_option linter.unusedVariables false
namespace Go.Proofs.YtjmnenjejgahjaaGreatDoor
namespace B
open Go.RowKit
theorem byteAt_get {s : ByteArray} {i : Nat} (h : i < s.data.toList.length) : byteAt s (i : Int) = ((s.data.toList[i]).toNat : Int) := by
  unfold byteAt
  simp only [Int.toNat_natCast, List.getD_eq_getElem?_getD, List.getElem?_eq_getElem h, Option.getD_some]
theorem byte_inj {a b : UInt8} (h : (a.toNat : Int) = (b.toNat : Int)) : a = b := UInt8.toNat_inj.1 (by omega)
theorem lsz (s : ByteArray) : s.data.toList.length = s.size := by simp
theorem turn_n1 {s t : ByteArray} {i n : Nat} (q : n = i + X.lcpL (s.data.toList.drop i) (t.data.toList.drop i)) (h : ((i : Int) < (s.size : Int) ∧ (i : Int) < (t.size : Int)) ∧ byteAt s (i : Int) = byteAt t (i : Int)) : n = i + 1 + X.lcpL (s.data.toList.drop (i + 1)) (t.data.toList.drop (i + 1)) := by
  obtain ⟨⟨h1, h2⟩, h3⟩ := h
  have l1 : i < s.data.toList.length := by rw [lsz]; omega
  have l2 : i < t.data.toList.length := by rw [lsz]; omega
  rw [byteAt_get l1, byteAt_get l2] at h3
  rw [q, X.lcp_step l1 l2 (byte_inj h3)]; omega
theorem turn_fr {s t : ByteArray} {i n : Nat} (q : n = i + X.lcpL (s.data.toList.drop i) (t.data.toList.drop i)) (h : ((s.size : Int) ≤ (i : Int) ∨ (t.size : Int) ≤ (i : Int)) ∨ ¬ byteAt s (i : Int) = byteAt t (i : Int)) : i = n := by
  have stop : s.size ≤ i ∨ t.size ≤ i → i = n := fun h => by
    rw [q, X.lcp_stop (by rw [lsz, lsz]; exact h)]; rfl
  by_cases hs : s.size ≤ i ∨ t.size ≤ i
  · exact stop hs
  · rcases h with h | h
    · exact stop (by omega)
    · have l1 : i < s.data.toList.length := by rw [lsz]; omega
      have l2 : i < t.data.toList.length := by rw [lsz]; omega
      rw [byteAt_get l1, byteAt_get l2] at h
      rw [q, X.lcp_ne l1 l2 (fun e => h (by rw [e]))]; rfl
theorem byteAt_rev {s : ByteArray} {i j : Nat} (h : i + j < s.size) : ∃ hl : j < (s.data.toList.drop i).reverse.length, byteAt s ((s.size : Int) - 1 - (j : Int)) = (((s.data.toList.drop i).reverse[j]).toNat : Int) := by
  have hz := lsz s
  have hl : j < (s.data.toList.drop i).reverse.length := by rw [List.length_reverse, List.length_drop]; omega
  refine ⟨hl, ?_⟩
  have l1 : s.size - 1 - j < s.data.toList.length := by omega
  rw [show (s.size : Int) - 1 - (j : Int) = ((s.size - 1 - j : Nat) : Int) by omega, byteAt_get l1]
  congr 2
  rw [List.getElem_reverse, List.getElem_drop]
  congr 1
  rw [List.length_drop]; omega
theorem turn_n2 {s t : ByteArray} {i j n : Nat} (q : n = j + X.lcpL ((s.data.toList.drop i).reverse.drop j) ((t.data.toList.drop i).reverse.drop j)) (h : ((j : Int) < (s.size : Int) - (i : Int) ∧ (j : Int) < (t.size : Int) - (i : Int)) ∧ byteAt s ((s.size : Int) - 1 - (j : Int)) = byteAt t ((t.size : Int) - 1 - (j : Int))) : n = j + 1 + X.lcpL ((s.data.toList.drop i).reverse.drop (j + 1)) ((t.data.toList.drop i).reverse.drop (j + 1)) := by
  obtain ⟨⟨h1, h2⟩, h3⟩ := h
  obtain ⟨l1, g1⟩ := byteAt_rev (s := s) (i := i) (j := j) (by omega)
  obtain ⟨l2, g2⟩ := byteAt_rev (s := t) (i := i) (j := j) (by omega)
  rw [g1, g2] at h3
  rw [q, X.lcp_step l1 l2 (byte_inj h3)]; omega
theorem turn_en {s t : ByteArray} {i j n : Nat} (q : n = j + X.lcpL ((s.data.toList.drop i).reverse.drop j) ((t.data.toList.drop i).reverse.drop j)) (h : ((s.size : Int) - (i : Int) ≤ (j : Int) ∨ (t.size : Int) - (i : Int) ≤ (j : Int)) ∨ ¬ byteAt s ((s.size : Int) - 1 - (j : Int)) = byteAt t ((t.size : Int) - 1 - (j : Int))) : j = n := by
  have stop : s.size ≤ i + j ∨ t.size ≤ i + j → j = n := fun h => by
    have h1 := lsz s
    have h2 := lsz t
    rw [q, X.lcp_stop (by rw [List.length_reverse, List.length_reverse, List.length_drop, List.length_drop]; omega)]; rfl
  by_cases hs : s.size ≤ i + j ∨ t.size ≤ i + j
  · exact stop hs
  · rcases h with h | h
    · exact stop (by omega)
    · obtain ⟨l1, g1⟩ := byteAt_rev (s := s) (i := i) (j := j) (by omega)
      obtain ⟨l2, g2⟩ := byteAt_rev (s := t) (i := i) (j := j) (by omega)
      rw [g1, g2] at h
      rw [q, X.lcp_ne l1 l2 (fun e => h (by rw [e]))]; rfl
end B
end Go.Proofs.YtjmnenjejgahjaaGreatDoor
