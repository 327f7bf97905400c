/-
  Walks, printed by a program (gen.py): SelQ.
-/
import Derived.Test.YtjapbdofhbfmfaaSelP
set_option linter.unusedSimpArgs false
set_option linter.unusedVariables false
namespace Go.Proofs.Ytjapbdofhbfmfaa
namespace B
open Go.RowKit
open Srt
theorem codes_2 {n : Int} {i : Nat} {p : Int × Int} (h : i = 0) : normE n (List.replicate i p) = 2 ∧ normF n (List.replicate i p) = [] := by
  subst h; exact normE_2 (by simp)
theorem codes_7 {n : Int} {i : Nat} {p : Int × Int} (h : 64 < i) : normE n (List.replicate i p) = 7 ∧ normF n (List.replicate i p) = [] :=
  normE_7 (by rw [List.length_replicate]; exact decide_eq_false (by omega)) (by rw [List.length_replicate]; exact decide_eq_true (by omega))
theorem nth_rep {i : Nat} {p : Int × Int} (h : 0 < i) : nth (List.replicate i p) ((0 : Nat) : Int) = p := nth_of (by rw [List.getElem?_replicate]; simp [h])
theorem codes_3 {n : Int} {i : Nat} {p : Int × Int} (h : 0 < i) (h2 : i ≤ 64) (hb : ((p.1 < 0 ∨ p.2 < 0) ∨ n < p.1) ∨ n < p.2) : normE n (List.replicate i p) = 3 ∧ normF n (List.replicate i p) = [] :=
  normE_3 (k := 0) (by rw [List.length_replicate]; exact decide_eq_false (by omega)) (by rw [List.length_replicate]; exact decide_eq_false (by omega)) (by rw [List.length_replicate]; exact h) (by
    rw [nth_rep h, Bool.not_eq_true']
    rw [← Bool.not_eq_true, may_iff]
    simp only [sspan]; omega)
theorem ordF_len_pos {xs : List (Int × Int)} (h : 0 < xs.length) : 0 < (ordF xs).length :=
  List.length_pos_iff.2 (ordF_pos xs (List.length_pos_iff.1 h))
theorem codes_0 {n : Int} {i : Nat} {p : Int × Int} (h : 0 < i) (h2 : i ≤ 64) (hb : ((0 ≤ p.1 ∧ 0 ≤ p.2) ∧ p.1 ≤ n) ∧ p.2 ≤ n) : normE n (List.replicate i p) = 0 ∧ 0 < (normF n (List.replicate i p)).length := by
  have e : normE n (List.replicate i p) = 0 := normE_zero (by intro e; have := congrArg List.length e; simp at this; omega) (by simpa using h2) (fun s hs => by rw [(List.mem_replicate.1 hs).2]; exact may_some (by omega))
  refine ⟨e, ?_⟩
  rw [normF_zero e]
  exact ordF_len_pos (by simpa using h)
theorem some_at {xs : List (Int × Int)} {i : Nat} : i < xs.length → 0 ≤ (nth (someF xs) (i : Int)).1 ∧ (nth (someF xs) (i : Int)).1 ≤ 60 ∧ 0 ≤ (nth (someF xs) (i : Int)).2 ∧ (nth (someF xs) (i : Int)).2 ≤ 60 :=
  fun h => someF_may xs _ (nth_mem (by rw [someF_len]; exact h))
theorem may_ends {s : Int × Int} {n : Int} (h : mayB (sspan s) n = true) : 0 ≤ s.1 ∧ s.1 ≤ n ∧ 0 ≤ s.2 ∧ s.2 ≤ n := by
  rw [may_iff] at h; simp only [sspan] at h; omega
theorem ord_at {xs : List (Int × Int)} {i : Nat} : i < (ordF (someF xs)).length → 0 ≤ (nth (ordF (someF xs)) (i : Int)).1 ∧ (nth (ordF (someF xs)) (i : Int)).1 ≤ 60 ∧ 0 ≤ (nth (ordF (someF xs)) (i : Int)).2 ∧ (nth (ordF (someF xs)) (i : Int)).2 ≤ 60 :=
  fun h => may_ends (ordF_all may_join (someF xs) (fun s hs => may_some (someF_may xs s hs)) _ (nth_mem h))
theorem norm_shift {xs : List (Int × Int)} {k : Nat} (h1 : 0 < xs.length) (h2 : xs.length ≤ 64) : normE (60 + (k : Int)) ((someF xs).map (shift (k : Int))) = 0 :=
  normE_zero (by intro e; exact some_ne h1 (List.map_eq_nil_iff.1 e)) (by rw [List.length_map, someF_len]; exact h2) fun s hs => by
    obtain ⟨p, hp, rfl⟩ := List.mem_map.1 hs
    have := someF_may xs p hp
    exact may_some (by simp only [shift]; omega)
theorem ord_some_pos {xs : List (Int × Int)} (h : 0 < xs.length) : 0 < (ordF (someF xs)).length := ordF_len_pos (by rw [someF_len]; exact h)
theorem cover_ok {ys : List (Int × Int)} {j : Nat} (h : j < (ordF ys).length) : (decide ((0 : Int) < (j : Int)) && decide ((sspan (nth (ordF ys) (j : Int))).1 ≤ (sspan (nth (ordF ys) ((j : Int) - 1))).2)) = false := by
  by_cases h0 : 0 < j
  · have := par_at (ordF_par ys) (i := j - 1) (j := j) (by omega) h
    rw [show ((j - 1 : Nat) : Int) = (j : Int) - 1 by omega] at this
    rw [decide_eq_false (p := (sspan (nth (ordF ys) (j : Int))).1 ≤ _) (by omega), Bool.and_false]
  · rw [decide_eq_false (by omega), Bool.false_and]
def wayF (b : Bool) (s : Int × Int) : Int × Int := bif b then (max s.1 s.2 + 1, min s.1 s.2) else (min s.1 s.2, max s.1 s.2 + 1)
def bk (b : Bool) (S : List (Int × Int)) (k : Nat) : List (Int × Int) := (S.take k).map (wayF b) ++ S.drop k
theorem bk_len (b : Bool) (S : List (Int × Int)) (k : Nat) : (bk b S k).length = S.length := by simp [bk]; omega
theorem bk_all {b : Bool} {S : List (Int × Int)} {k : Nat} (h : S.length ≤ k) : S.map (wayF b) = bk b S k := by
  unfold bk; rw [List.take_of_length_le h, List.drop_of_length_le h, List.append_nil]
theorem bk_nth {b : Bool} {S : List (Int × Int)} {k : Nat} (h : k < S.length) : nth (bk b S k) (k : Int) = nth S (k : Int) := by
  unfold bk
  rw [drop_cons h]
  exact nth_app (by simp; omega)
theorem bk_set {b : Bool} {S : List (Int × Int)} {k : Nat} (h : k < S.length) : (bk b S k).set ((k : Int)).toNat (wayF b (nth S (k : Int))) = bk b S (k + 1) := by
  unfold bk
  rw [drop_cons h, take_snoc h, List.map_append, Int.toNat_natCast, List.set_append_right _ _ (by simp; omega)]
  simp [show min k S.length = k by omega]
theorem bk_on {b : Bool} {xs : List (Int × Int)} {k : Nat} (h : k < (someF xs).length) (hb : b = false) :
    bk b (someF xs) (k + 1) = (bk b (someF xs) k).set ((k : Int)).toNat (min (nth (bk b (someF xs) k) (k : Int)).1 (nth (bk b (someF xs) k) (k : Int)).2, max (nth (bk b (someF xs) k) (k : Int)).1 (nth (bk b (someF xs) k) (k : Int)).2 + 1) := by
  subst hb
  rw [← bk_set h, bk_nth h]; rfl
theorem bk_back {b : Bool} {xs : List (Int × Int)} {k : Nat} {u : Int × Int} (h : k < (someF xs).length) (hb : b = true) :
    bk b (someF xs) (k + 1) = ((bk b (someF xs) k).set ((k : Int)).toNat u).set ((k : Int)).toNat (max (nth (bk b (someF xs) k) (k : Int)).1 (nth (bk b (someF xs) k) (k : Int)).2 + 1, min (nth (bk b (someF xs) k) (k : Int)).1 (nth (bk b (someF xs) k) (k : Int)).2) := by
  subst hb
  rw [List.set_set, ← bk_set h, bk_nth h]; rfl
theorem bk_at {b : Bool} {xs : List (Int × Int)} {i : Nat} : i < xs.length → 0 ≤ (nth (bk b (someF xs) i) (i : Int)).1 ∧ (nth (bk b (someF xs) i) (i : Int)).1 ≤ 60 ∧ 0 ≤ (nth (bk b (someF xs) i) (i : Int)).2 ∧ (nth (bk b (someF xs) i) (i : Int)).2 ≤ 60 := by
  intro h
  rw [bk_nth (by rw [someF_len]; exact h)]
  exact some_at h
theorem way_ends {b : Bool} {s : Int × Int} (h : 0 ≤ s.1 ∧ s.1 ≤ 60 ∧ 0 ≤ s.2 ∧ s.2 ≤ 60) : 0 ≤ (wayF b s).1 ∧ (wayF b s).1 ≤ 61 ∧ 0 ≤ (wayF b s).2 ∧ (wayF b s).2 ≤ 61 := by
  cases b <;> simp only [wayF, cond] <;> omega
theorem way_may {b : Bool} {xs : List (Int × Int)} : ∀ s ∈ (someF xs).map (wayF b), 0 ≤ s.1 ∧ s.1 ≤ 61 ∧ 0 ≤ s.2 ∧ s.2 ≤ 61 := by
  intro s hs
  obtain ⟨p, hp, rfl⟩ := List.mem_map.1 hs
  exact way_ends (someF_may xs p hp)
theorem norm_way {b : Bool} {xs : List (Int × Int)} (h1 : 0 < xs.length) (h2 : xs.length ≤ 64) : normE 61 ((someF xs).map (wayF b)) = 0 :=
  normE_zero (by intro e; exact some_ne h1 (List.map_eq_nil_iff.1 e)) (by rw [List.length_map, someF_len]; exact h2) fun s hs => may_some (way_may s hs)
theorem way_at (b : Bool) (xs : List (Int × Int)) : ∀ j : Nat, j < (ordF ((someF xs).map (wayF b))).length → decide ((nth (ordF ((someF xs).map (wayF b))) (j : Int)).2 < (nth (ordF ((someF xs).map (wayF b))) (j : Int)).1) = b := fun j hj =>
  ordF_all (P := fun s => decide (s.2 < s.1) = b) (fun l s h1 h2 ht => way_join l s h1 h2 ht) ((someF xs).map (wayF b)) (fun s hs => by
    obtain ⟨p, _, rfl⟩ := List.mem_map.1 hs
    cases b <;> simp only [wayF, cond]
    · exact decide_eq_false (by omega)
    · exact decide_eq_true (by omega)) _ (nth_mem hj)
theorem mod_range (b : Bool) (xs : List (Int × Int)) (h : 0 < xs.length) : 0 ≤ (nth ((someF xs).map (wayF b)) (0 : Int)).1.tmod 60 ∧ (nth ((someF xs).map (wayF b)) (0 : Int)).1.tmod 60 ≤ 60 := by
  have := way_may (b := b) (xs := xs) _ (nth_mem (i := 0) (by rw [List.length_map, someF_len]; exact h))
  have e : nth ((someF xs).map (wayF b)) ((0 : Nat) : Int) = nth ((someF xs).map (wayF b)) (0 : Int) := rfl
  rw [e] at this
  rw [Int.tmod_eq_emod_of_nonneg this.1]
  have h3 := Int.emod_nonneg (nth ((someF xs).map (wayF b)) (0 : Int)).1 (show (60 : Int) ≠ 0 by omega)
  have h4 := Int.emod_lt_of_pos (nth ((someF xs).map (wayF b)) (0 : Int)).1 (show (0 : Int) < 60 by omega)
  omega
theorem norm_one {m : Int} (h1 : 0 ≤ m) (h2 : m ≤ 60) : normE 60 [(m, m)] = 0 := normE_zero (by simp) (by simp) fun s hs => by
  simp at hs; rw [hs]; exact may_some (by simp only; omega)
theorem normF_one {m : Int} (h1 : 0 ≤ m) (h2 : m ≤ 60) : normF 60 [(m, m)] = [(m, m)] := by
  rw [normF_zero (norm_one h1 h2)]; exact ordF_id _ (List.pairwise_singleton _ _)
theorem typ_mul {t : ByteArray} {i n : Nat} (hn : n ≤ 64) (ht : t.size ≤ 30) : i < n → 0 ≤ ((i : Int) + 1) * (t.size : Int) ∧ ((i : Int) + 1) * (t.size : Int) ≤ 2000 := by
  intro h
  have h1 : (0 : Int) ≤ ((i : Int) + 1) * (t.size : Int) := Int.mul_nonneg (by omega) (by omega)
  have h2 : ((i : Int) + 1) * (t.size : Int) ≤ 64 * 30 := Int.mul_le_mul (by omega) (by omega) (by omega) (by omega)
  omega
theorem car_at {ys : List (Int × Int)} {i : Nat} (hc : ∀ s ∈ ys, Car s) : i < ys.length → (nth ys (i : Int)).1 = (nth ys (i : Int)).2 ∧ 0 ≤ (nth ys (i : Int)).1 ∧ (nth ys (i : Int)).1 ≤ 199 := fun h => hc _ (nth_mem h)
theorem typed_ok {ys : List (Int × Int)} {z : Int} {i : Nat} (hc : ∀ s ∈ ys, Car s) (h : i < ys.length) : (!decide ((nth (typ z 0 ys) (i : Int)).2 = (nth ys (i : Int)).2 + ((i : Int) + 1) * z) || !decide ((nth (typ z 0 ys) (i : Int)).1 = (nth (typ z 0 ys) (i : Int)).2)) = false := by
  have e := typ_get z 0 ys i h
  have e2 := (car_at hc h).1
  rw [e, show ((0 : Nat) : Int) + (i : Int) + 1 = (i : Int) + 1 by omega, e2]
  simp
end B
end Go.Proofs.Ytjapbdofhbfmfaa
