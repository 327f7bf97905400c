/-
  Rows of characters: what the walks of chapter 12 tell. No program.
-/
import Derived.Test.YtocmchlhbniloaaSelA
import Derived.Test.YtocmchlhbniloaaSort2
import Derived.Test.YtocmchlhbniloaaRef
set_option linter.unusedSimpArgs false
set_option linter.unusedVariables false
namespace Go.Proofs.Ytocmchlhbniloaa
namespace B
open Srt
abbrev Rw := ByteArray × ByteArray
theorem nth_memL {α : Type} [Inhabited α] {xs : List α} {k : Nat} (h : k < xs.length) : nth xs (k : Int) ∈ xs := List.mem_of_getElem? (nth_lt h)
theorem upto_succ {f : Int → Bool} {k : Nat} (h : ∀ i < k, f ((i : Nat) : Int) = false) (h2 : f (k : Int) = false) : ∀ i < k + 1, f ((i : Nat) : Int) = false := by
  intro i hi
  by_cases e : i = k
  · subst e; exact h2
  · exact h i (by omega)
def Small (xs : List Rw) : Prop := ∀ r ∈ xs, r.1.size ≤ 1000000 ∧ r.2.size ≤ 1000000
theorem small_at {xs : List Rw} (h : Small xs) {k : Nat} : k < xs.length → (nth xs (k : Int)).1.size ≤ 1000000 ∧ (nth xs (k : Int)).2.size ≤ 1000000 := fun hk => h _ (nth_memL hk)
def rowB (r : Rw) : Bool := (properB r.1 && properB r.2) && leT r.1 r.2
def cmpR (p q : Rw) : Int := orF [cmpT p.1 q.1, cmpT p.2 q.2]
def ltR (p q : Rw) : Bool := decide (cmpR p q < 0)
theorem cmpT_1 {x y : ByteArray} (h : ltT x y = true) : cmpT x y = -1 := if_pos h
theorem cmpT_2 {x y : ByteArray} (h : ltT x y = false) (h2 : (!leT x y) = true) : cmpT x y = 1 := by
  have : ltT y x = true := by
    cases hb : ltT y x with
    | true => rfl
    | false => rw [leT_iff.2 hb] at h2; cases h2
  rw [cmpT, if_neg (by rw [h]; decide), if_pos this]
theorem cmpT_3 {x y : ByteArray} (h : ltT x y = false) (h2 : (!leT x y) = false) : cmpT x y = 0 := by
  have : ltT y x = false := leT_iff.1 (by simpa using h2)
  rw [cmpT, if_neg (by rw [h]; decide), if_neg (by rw [this]; decide)]
theorem cmpT_lt {x y : ByteArray} : cmpT x y < 0 ↔ ltT x y = true := by
  unfold cmpT
  split
  · rename_i h; simp [h]
  · rename_i h; split <;> simp [h]
theorem cmpT_eq {x y : ByteArray} : cmpT x y = 0 ↔ x = y := by
  unfold cmpT
  constructor
  · intro h
    rcases ltT_tri x y with h' | h' | h'
    · rw [if_pos h'] at h; cases h
    · exact h'
    · rw [if_neg (by rw [ltT_asymm h']; decide), if_pos h'] at h; cases h
  · rintro rfl
    rw [if_neg (by rw [ltT_irr]; decide), if_neg (by rw [ltT_irr]; decide)]
theorem ltR_iff (p q : Rw) : ltR p q = true ↔ ltT p.1 q.1 = true ∨ (p.1 = q.1 ∧ ltT p.2 q.2 = true) := by
  unfold ltR cmpR orF
  rw [decide_eq_true_eq, ← cmpT_lt, ← cmpT_lt, ← cmpT_eq]
  generalize cmpT p.1 q.1 = a
  generalize cmpT p.2 q.2 = b
  have hn : ∀ x : Int, ¬ x = 0 → (x != 0) = true := fun x h => by simpa using h
  by_cases h1 : a = 0
  · subst h1
    by_cases h2 : b = 0
    · subst h2; simp [List.find?]
    · simp [List.find?, hn b h2]
  · simp [List.find?, hn a h1, h1]
theorem ltR_swo : Swo ltR := by
  constructor
  · intro x y h
    rw [ltR_iff] at h
    rw [← Bool.not_eq_true, ltR_iff]
    rintro (h' | ⟨e, h'⟩)
    · rcases h with h | ⟨e, h⟩
      · rw [ltT_asymm h] at h'; cases h'
      · rw [e, ltT_irr] at h'; cases h'
    · rcases h with h | ⟨_, h⟩
      · rw [e, ltT_irr] at h; cases h
      · rw [ltT_asymm h] at h'; cases h'
  · intro x y z h1 h2
    rw [← Bool.not_eq_true, ltR_iff] at h1 h2 ⊢
    rintro (h | ⟨e, h⟩)
    · rcases ltT_tri x.1 y.1 with h' | h' | h'
      · exact h1 (.inl h')
      · rw [h'] at h; exact h2 (.inl h)
      · exact h2 (.inl (ltT_trans h' h))
    · rcases ltT_tri x.1 y.1 with h' | h' | h'
      · exact h1 (.inl h')
      · rcases ltT_tri x.2 y.2 with k | k | k
        · exact h1 (.inr ⟨h', k⟩)
        · rw [k] at h; exact h2 (.inr ⟨h' ▸ e, h⟩)
        · exact h2 (.inr ⟨h' ▸ e, ltT_trans k h⟩)
      · rw [e] at h'; exact h2 (.inl h')
def inR (xs : List Rw) (c : ByteArray) : Bool := xs.any fun r => leT r.1 c && leT c r.2
theorem inR_yes {xs : List Rw} {c : ByteArray} {k : Nat} (h : k < xs.length) (hc : (leT (nth xs (k : Int)).1 c && leT c (nth xs (k : Int)).2) = true) : inR xs c = true := List.any_eq_true.2 ⟨_, nth_memL h, hc⟩
theorem inR_no {xs : List Rw} {c : ByteArray} {k : Nat} (h : xs.length ≤ k) (hq : ∀ i < k, (leT (nth xs ((i : Nat) : Int)).1 c && leT c (nth xs ((i : Nat) : Int)).2) = false) : inR xs c = false := by
  unfold inR
  rw [List.any_eq_false]
  intro r hr
  obtain ⟨i, hi, rfl⟩ := List.getElem_of_mem hr
  have := hq i (by omega)
  rw [nth_of (List.getElem?_eq_getElem hi)] at this
  rw [this]; decide
def hasF (xs : List Rw) (n f : Bool) (c : ByteArray) : Bool := !((if f = true then (inR xs c || inR xs (foldT c)) || inR xs (upT c) else inR xs c) == n)
/-- one that is no row, or not above the one ahead -/
def badRow (xs : List Rw) (i : Int) : Bool := !rowB (nth xs i) || (decide (0 < i) && leT (nth xs i).1 (nth xs (i - 1)).2)
def mayRow (xs : List Rw) : Bool := (List.range xs.length).all fun i => !badRow xs (i : Int)
theorem mayRow_no {xs : List Rw} {k : Nat} (h : k < xs.length) (hb : badRow xs (k : Int) = true) : mayRow xs = false := by
  unfold mayRow
  rw [List.all_eq_false]
  exact ⟨k, by simpa using h, by simp [hb]⟩
theorem mayRow_yes {xs : List Rw} {k : Nat} (h : ∀ i < k, badRow xs ((i : Nat) : Int) = false) (hk : xs.length ≤ k) : mayRow xs = true := by
  unfold mayRow
  rw [List.all_eq_true]
  intro i hi
  simp at hi
  simp [h i (by omega)]
theorem badRow_ref (xs : List Rw) (i : Int) : (((!properB (nth xs i).1 || !properB (nth xs i).2) || !leT (nth xs i).1 (nth xs i).2) || (decide (0 < i) && leT (nth xs i).1 (nth xs (i - 1)).2)) = badRow xs i := by
  unfold badRow rowB
  cases properB (nth xs i).1 <;> cases properB (nth xs i).2 <;> cases leT (nth xs i).1 (nth xs i).2 <;> rfl
theorem row_ref (r : Rw) : ((!properB r.1 || !properB r.2) || !leT r.1 r.2) = !rowB r := by
  unfold rowB
  cases properB r.1 <;> cases properB r.2 <;> cases leT r.1 r.2 <;> rfl
theorem filter_t {α : Type} [Inhabited α] {f : α → Bool} {xs : List α} {k : Nat} (h : k < xs.length) (hp : f (nth xs (k : Int)) = true) : (xs.take (k + 1)).filter f = (xs.take k).filter f ++ [nth xs (k : Int)] := by
  rw [take_snoc h, List.filter_append]; simp [hp]
theorem filter_f {α : Type} [Inhabited α] {f : α → Bool} {xs : List α} {k : Nat} (h : k < xs.length) (hp : f (nth xs (k : Int)) = false) : (xs.take (k + 1)).filter f = (xs.take k).filter f := by
  rw [take_snoc h, List.filter_append]; simp [hp]
theorem filter_le {α : Type} {f : α → Bool} {xs : List α} {k : Nat} : ((xs.take k).filter f).length ≤ xs.length := by
  have h1 := List.length_filter_le f (xs.take k)
  have h3 := List.length_take_le' k xs
  omega
theorem sort_filter_le (xs : List Rw) : (isort ltR (xs.filter rowB)).length ≤ xs.length := by
  rw [isort_length]; exact List.length_filter_le _ _
def hitT (acc : List Rw) (p : Rw) : Bool := decide (0 ≤ (acc.length : Int) - 1) && leT p.1 (nth acc ((acc.length : Int) - 1)).2
def stepT (acc : List Rw) (p : Rw) : List Rw :=
  if hitT acc p = true then acc.set ((acc.length : Int) - 1).toNat ((nth acc ((acc.length : Int) - 1)).1, maxT (nth acc ((acc.length : Int) - 1)).2 p.2) else acc ++ [p]
def joinT (xs : List Rw) : List Rw := xs.foldl stepT []
theorem joinT_snoc (xs : List Rw) (p : Rw) : joinT (xs ++ [p]) = stepT (joinT xs) p := by simp [joinT]
theorem joinT_hit {xs : List Rw} {k : Nat} (h : k < xs.length) (hc : hitT (joinT (xs.take k)) (nth xs (k : Int)) = true) :
    joinT (xs.take (k + 1)) = (joinT (xs.take k)).set (((joinT (xs.take k)).length : Int) - 1).toNat ((nth (joinT (xs.take k)) (((joinT (xs.take k)).length : Int) - 1)).1, maxT (nth (joinT (xs.take k)) (((joinT (xs.take k)).length : Int) - 1)).2 (nth xs (k : Int)).2) := by
  rw [take_snoc h, joinT_snoc, stepT, if_pos hc]
theorem joinT_miss {xs : List Rw} {k : Nat} (h : k < xs.length) (hc : hitT (joinT (xs.take k)) (nth xs (k : Int)) = false) : joinT (xs.take (k + 1)) = joinT (xs.take k) ++ [nth xs (k : Int)] := by
  rw [take_snoc h, joinT_snoc, stepT, if_neg (by rw [hc]; decide)]
theorem joinT_le (xs : List Rw) : (joinT xs).length ≤ xs.length := by
  induction xs using snoc_ind with
  | h0 => simp [joinT]
  | h1 xs x ih =>
    rw [joinT_snoc, stepT]
    split
    · simp; omega
    · simp; omega
theorem joinT_take {xs : List Rw} {k : Nat} : (joinT (xs.take k)).length ≤ k := by
  have h1 := joinT_le (xs.take k)
  have h2 := List.length_take_le k xs
  omega
theorem hitT_ref {acc : List Rw} {p : Rw} {b : Bool} (h : (decide ((0 : Int) < (acc.length : Int)) && leT p.1 (nth acc ((acc.length : Int) - 1)).2) = b) : hitT acc p = b := by
  rw [← h]; unfold hitT
  congr 1
  exact decide_eq_decide.2 (by omega)
def unionT (xs : List Rw) : List Rw := joinT (isort ltR (xs.filter rowB))
/-- the reference's order -/
def ltQ (x y : Rw) : Bool := ltT x.1 y.1 || (eqT x.1 y.1 && ltT x.2 y.2)
theorem ltQ_eq : ltQ = ltR := by
  funext x y
  rw [Bool.eq_iff_iff, ltR_iff, ltQ, Bool.or_eq_true, Bool.and_eq_true, eqT_iff]
theorem refIns_f {xs : List Rw} {i k : Nat} (h : i < xs.length) (hr : rowB (nth xs (i : Int)) = true) (hk : k ≤ (isort ltQ ((xs.take i).filter rowB)).length) (hq : ∀ q ∈ (isort ltQ ((xs.take i).filter rowB)).drop k, ltQ (nth xs (i : Int)) q = true)
    (hc : (decide ((0 : Int) < (k : Int)) && ltQ (nth xs (i : Int)) (nth (isort ltQ ((xs.take i).filter rowB)) ((k : Int) - 1))) = false) :
    isort ltQ ((xs.take (i + 1)).filter rowB) = (([] ++ ((isort ltQ ((xs.take i).filter rowB)).drop 0).take (k - 0)) ++ [nth xs (i : Int)]) ++ ((isort ltQ ((xs.take i).filter rowB)).drop k).take ((isort ltQ ((xs.take i).filter rowB)).length - k) := by
  rw [filter_t h hr, isort_snoc, insRef hk hq hc]
def namedF (n : Int) : List Rw := if n = 100 then [(⟨#[48]⟩, ⟨#[57]⟩)] else if n = 119 then [(⟨#[48]⟩, ⟨#[57]⟩), (⟨#[65]⟩, ⟨#[90]⟩), (⟨#[95]⟩, ⟨#[95]⟩), (⟨#[97]⟩, ⟨#[122]⟩)] else if n = 115 then [(⟨#[9]⟩, ⟨#[13]⟩), (⟨#[32]⟩, ⟨#[32]⟩)] else []
def namedB (n : Int) : Bool := decide (n = 100) || (decide (n = 119) || decide (n = 115))
def longL : Int → List ByteArray → Bool
  | _, [] => false
  | n, s :: ss => decide (n ≤ (s.size : Int)) || longL (n - (s.size : Int) - 1) ss
theorem longL_hit {es : List ByteArray} {n m : Int} {k : Nat} (h : k < es.length) (hq : longL n es = longL m (es.drop k)) (hc : m ≤ ((nth es (k : Int)).size : Int)) : longL n es = true := by
  rw [hq, drop_cons h, longL, decide_eq_true hc]; rfl
theorem longL_next {es : List ByteArray} {n m : Int} {k : Nat} (h : k < es.length) (hq : longL n es = longL m (es.drop k)) (hc : ((nth es (k : Int)).size : Int) < m) : longL n es = longL (m - ((nth es (k : Int)).size : Int) - 1) (es.drop (k + 1)) := by
  rw [hq, drop_cons h, longL, decide_eq_false (by omega)]; rfl
theorem longL_end {es : List ByteArray} {n m : Int} {k : Nat} (h : es.length ≤ k) (hq : longL n es = longL m (es.drop k)) : longL n es = false := by
  rw [hq, List.drop_of_length_le h]; rfl
def muchRL : Int → List Rw → Bool
  | _, [] => false
  | n, r :: rs => longL n [r.1, r.2] || muchRL (n - (r.1.size : Int) - (r.2.size : Int)) rs
def muchR (m n : Int) (xs : List Rw) : Bool := decide (m < (xs.length : Int)) || muchRL n xs
theorem long2 {n : Int} {a b : ByteArray} (h : longL n [a, b] = false) : (a.size : Int) + 1 + (b.size : Int) < n := by
  simp only [longL, Bool.or_false, Bool.or_eq_false_iff, decide_eq_false_iff_not] at h
  omega
theorem muchRL_hit {es : List Rw} {n m : Int} {k : Nat} (h : k < es.length) (hq : muchRL n es = muchRL m (es.drop k)) (hc : longL m [(nth es (k : Int)).1, (nth es (k : Int)).2] = true) : muchRL n es = true := by
  rw [hq, drop_cons h, muchRL, hc]; rfl
theorem muchRL_next {es : List Rw} {n m : Int} {k : Nat} (h : k < es.length) (hq : muchRL n es = muchRL m (es.drop k)) (hc : longL m [(nth es (k : Int)).1, (nth es (k : Int)).2] = false) : muchRL n es = muchRL (m - ((nth es (k : Int)).1.size : Int) - ((nth es (k : Int)).2.size : Int)) (es.drop (k + 1)) := by
  rw [hq, drop_cons h, muchRL, hc]; rfl
theorem muchRL_end {es : List Rw} {n m : Int} {k : Nat} (h : es.length ≤ k) (hq : muchRL n es = muchRL m (es.drop k)) : muchRL n es = false := by
  rw [hq, List.drop_of_length_le h]; rfl
theorem much_small : ∀ {xs : List Rw} {n : Int}, muchRL n xs = false → ∀ r ∈ xs, (r.1.size : Int) ≤ n ∧ (r.2.size : Int) ≤ n := by
  intro xs
  induction xs with
  | nil => intro n _ r hr; cases hr
  | cons a xs ih =>
    intro n h r hr
    rw [muchRL, Bool.or_eq_false_iff] at h
    have h1 := long2 h.1
    rcases List.mem_cons.1 hr with rfl | hr
    · omega
    · have := ih h.2 r hr; omega
theorem fold_hit {s : ByteArray} {k : Nat} (h : k < (bs s).length) (hc : (decide ((65 : Int) ≤ ((nth (mapTo foldU (bs s) k) (k : Int)).toNat : Int)) && decide (((nth (mapTo foldU (bs s) k) (k : Int)).toNat : Int) ≤ 90)) = true) :
    mapTo foldU (bs s) (k + 1) = (mapTo foldU (bs s) k).set (k : Int).toNat (UInt8.ofNat (IntKind.u8.wrap (((nth (mapTo foldU (bs s) k) (k : Int)).toNat : Int) + 32)).toNat) := by
  refine mapTo_hit h ?_
  rw [mapTo_nth h] at hc ⊢
  rw [foldU, if_pos hc]
theorem fold_miss {s : ByteArray} {k : Nat} (h : k < (bs s).length) (hc : (decide ((65 : Int) ≤ ((nth (mapTo foldU (bs s) k) (k : Int)).toNat : Int)) && decide (((nth (mapTo foldU (bs s) k) (k : Int)).toNat : Int) ≤ 90)) = false) : mapTo foldU (bs s) (k + 1) = mapTo foldU (bs s) k := by
  refine mapTo_miss h ?_
  rw [mapTo_nth h] at hc
  rw [foldU, if_neg (by rw [hc]; decide)]
theorem up_hit {s : ByteArray} {k : Nat} (h : k < (bs s).length) (hc : (decide ((97 : Int) ≤ ((nth (mapTo upU (bs s) k) (k : Int)).toNat : Int)) && decide (((nth (mapTo upU (bs s) k) (k : Int)).toNat : Int) ≤ 122)) = true) :
    mapTo upU (bs s) (k + 1) = (mapTo upU (bs s) k).set (k : Int).toNat (UInt8.ofNat (IntKind.u8.wrap (((nth (mapTo upU (bs s) k) (k : Int)).toNat : Int) - 32)).toNat) := by
  refine mapTo_hit h ?_
  rw [mapTo_nth h] at hc ⊢
  rw [upU, if_pos hc]
theorem up_miss {s : ByteArray} {k : Nat} (h : k < (bs s).length) (hc : (decide ((97 : Int) ≤ ((nth (mapTo upU (bs s) k) (k : Int)).toNat : Int)) && decide (((nth (mapTo upU (bs s) k) (k : Int)).toNat : Int) ≤ 122)) = false) : mapTo upU (bs s) (k + 1) = mapTo upU (bs s) k := by
  refine mapTo_miss h ?_
  rw [mapTo_nth h] at hc
  rw [upU, if_neg (by rw [hc]; decide)]
end B
end Go.Proofs.Ytocmchlhbniloaa
