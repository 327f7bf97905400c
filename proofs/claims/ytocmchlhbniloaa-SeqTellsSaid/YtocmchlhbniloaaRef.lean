/-
  Plain lists: what the references' insertion by appending comes to. No program.
-/
import Derived.Test.YtocmchlhbniloaaSort3
set_option linter.unusedSimpArgs false
set_option linter.unusedVariables false
namespace Go.Proofs.Ytocmchlhbniloaa
namespace Srt
open B
theorem take_snocP {α : Type} [Inhabited α] {xs : List α} {k : Nat} (h : k < xs.length) : xs.take (k + 1) = xs.take k ++ [nth xs (k : Int)] := take_snoc' h
theorem down_step {α : Type} [Inhabited α] {lt : α → α → Bool} {x : α} {out : List α} {k : Nat} (h : 0 < k) (hk : k ≤ out.length) (hq : ∀ q ∈ out.drop k, lt x q = true) (hc : lt x (nth out ((k : Int) - 1)) = true) : ∀ q ∈ out.drop (k - 1), lt x q = true := by
  rw [drop_cons (show k - 1 < out.length by omega), show k - 1 + 1 = k by omega]
  intro q hm
  rcases List.mem_cons.1 hm with rfl | hm
  · rwa [show ((k - 1 : Nat) : Int) = (k : Int) - 1 by omega]
  · exact hq q hm
theorem insRef {α : Type} [Inhabited α] {lt : α → α → Bool} {O : List α} {x : α} {k : Nat} (hk : k ≤ O.length) (hq : ∀ q ∈ O.drop k, lt x q = true)
    (hc : (decide ((0 : Int) < (k : Int)) && lt x (nth O ((k : Int) - 1))) = false) :
    ins lt x O = (([] ++ (O.drop 0).take (k - 0)) ++ [x]) ++ (O.drop k).take (O.length - k) := by
  have e : O = O.take k ++ O.drop k := (List.take_append_drop k O).symm
  conv => lhs; rw [e]
  rw [ins_split hq]
  · rw [List.take_of_length_le (l := O.drop k) (by simp)]; simp
  · intro p hp
    by_cases h0 : k = 0
    · subst h0; simp at hp
    · have hlast : (O.take k).getLast? = some (nth O ((k : Int) - 1)) := by
        have := take_snocP (xs := O) (k := k - 1) (by omega)
        rw [show k - 1 + 1 = k by omega] at this
        rw [this, List.getLast?_append, show ((k - 1 : Nat) : Int) = (k : Int) - 1 by omega]; rfl
      rw [hlast] at hp
      cases hp
      have h1 : decide ((0 : Int) < (k : Int)) = true := decide_eq_true (by omega)
      rw [h1, Bool.true_and] at hc
      exact hc
theorem refIns {α : Type} [Inhabited α] {lt : α → α → Bool} {xs : List α} {i k : Nat} (h : i < xs.length) (hk : k ≤ (isort lt (xs.take i)).length) (hq : ∀ q ∈ (isort lt (xs.take i)).drop k, lt (nth xs (i : Int)) q = true)
    (hc : (decide ((0 : Int) < (k : Int)) && lt (nth xs (i : Int)) (nth (isort lt (xs.take i)) ((k : Int) - 1))) = false) :
    isort lt (xs.take (i + 1)) = (([] ++ ((isort lt (xs.take i)).drop 0).take (k - 0)) ++ [nth xs (i : Int)]) ++ ((isort lt (xs.take i)).drop k).take ((isort lt (xs.take i)).length - k) := by
  rw [take_snocP h, isort_snoc, insRef hk hq hc]
/-- a sorted list stays as it is -/
theorem isort_id {α : Type} [Inhabited α] {lt : α → α → Bool} {xs : List α} (h : Sorted lt xs) : isort lt xs = xs := by
  induction xs using snoc_ind with
  | h0 => rfl
  | h1 xs x ih =>
    obtain ⟨h1, _, h2⟩ := List.pairwise_append.1 h
    rw [isort_snoc, ih h1]
    have := ins_split (lt := lt) (x := x) (P := xs) (Q := []) (by simp) (fun p hp => h2 p (List.mem_of_getLast? hp) x (by simp))
    simpa using this
end Srt
end Go.Proofs.Ytocmchlhbniloaa
