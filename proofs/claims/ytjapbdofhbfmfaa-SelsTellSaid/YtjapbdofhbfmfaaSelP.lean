/-
  Plain lists of selections: what putting them in order comes to. No program.
-/
import Derived.Test.YtjapbdofhbfmfaaSelF
import Derived.Test.YtjapbdofhbfmfaaJoin
set_option linter.unusedSimpArgs false
set_option linter.unusedVariables false
namespace Go.Proofs.Ytjapbdofhbfmfaa
namespace B
open Srt
theorem sspan_le (s : Int × Int) : (sspan s).1 ≤ (sspan s).2 := by simp only [sspan]; omega
theorem sspan_joinO (l s : Int × Int) : touchB (sspan l) (sspan s) = true → sspan (joinO l s) = ((sspan l).1, max (sspan l).2 (sspan s).2) := by
  intro _
  have h := sspan_le l
  unfold joinO
  split
  · simp only [sspan] at h ⊢; congr 1 <;> omega
  · simp only [sspan] at h ⊢; congr 1 <;> omega
theorem stepO_nil (s : Int × Int) : stepO [] s = [s] := by simp [stepO, contO]
theorem stepO_snoc (A : List (Int × Int)) (l s : Int × Int) : stepO (A ++ [l]) s = if touchB (sspan l) (sspan s) = true then A ++ [joinO l s] else A ++ [l] ++ [s] := by
  have h1 : contO (A ++ [l]) s = !touchB (sspan l) (sspan s) := by
    unfold contO
    rw [nth_last, decide_eq_false (by simp), Bool.false_or]
  unfold stepO
  rw [h1, nth_last]
  cases touchB (sspan l) (sspan s) with
  | false => simp
  | true =>
    simp only [Bool.not_true, if_true]
    rw [if_neg (by decide), show (((A ++ [l]).length : Int) - 1).toNat = A.length by simp]
    simp
theorem snoc_or (acc : List (Int × Int)) : acc = [] ∨ ∃ A l, acc = A ++ [l] := by
  cases acc with
  | nil => exact .inl rfl
  | cons a l => exact .inr ⟨(a :: l).dropLast, (a :: l).getLast (by simp), (List.dropLast_concat_getLast _).symm⟩
theorem foldO_span (ys : List (Int × Int)) : (foldO ys).map sspan = joinF (ys.map sspan) := by
  induction ys using snoc_ind with
  | h0 => rfl
  | h1 ys s ih =>
    rw [foldO_snoc, List.map_append, List.map_singleton, joinF_snoc, ← ih]
    rcases snoc_or (foldO ys) with h | ⟨A, l, h⟩
    · rw [h, stepO_nil, List.map_nil, joinStep_nil]; rfl
    · rw [h, stepO_snoc, List.map_append, List.map_singleton, joinStep_snoc]
      split
      · rename_i ht
        rw [List.map_append, List.map_singleton, sspan_joinO l s ht]
      · simp
theorem foldO_all {P : Int × Int → Prop} (hj : ∀ l s, P l → P s → touchB (sspan l) (sspan s) = true → P (joinO l s)) (ys : List (Int × Int)) (h : ∀ s ∈ ys, P s) : ∀ s ∈ foldO ys, P s := by
  induction ys using snoc_ind with
  | h0 => intro s hs; simp [foldO] at hs
  | h1 ys q ih =>
    have ih' := ih (fun s hs => h s (by simp [hs]))
    have hq := h q (by simp)
    rw [foldO_snoc]
    rcases snoc_or (foldO ys) with h | ⟨A, l, h⟩
    · rw [h, stepO_nil]; intro s hs; simp at hs; rw [hs]; exact hq
    · rw [h] at ih'
      rw [h, stepO_snoc]
      split
      · rename_i ht
        intro s hs
        rcases List.mem_append.1 hs with hs | hs
        · exact ih' s (by simp [hs])
        · simp at hs; rw [hs]; exact hj l q (ih' l (by simp)) hq ht
      · intro s hs
        rcases List.mem_append.1 hs with hs | hs
        · exact ih' s hs
        · simp at hs; rw [hs]; exact hq
theorem ordF_all {P : Int × Int → Prop} (hj : ∀ l s, P l → P s → touchB (sspan l) (sspan s) = true → P (joinO l s)) (xs : List (Int × Int)) (h : ∀ s ∈ xs, P s) : ∀ s ∈ ordF xs, P s :=
  foldO_all hj _ fun s hs => h s ((isort_perm xs).mem_iff.1 hs)
theorem foldO_pos (ys : List (Int × Int)) (h : ys ≠ []) : foldO ys ≠ [] := by
  intro e
  have h1 := foldO_span ys
  rw [e] at h1
  obtain ⟨A, l, e2⟩ := joinF_form (ys.map sspan) (by simpa using h)
  rw [e2] at h1
  simp at h1
theorem ordF_pos (xs : List (Int × Int)) (h : xs ≠ []) : ordF xs ≠ [] := foldO_pos _ fun e => h (List.eq_nil_of_length_eq_zero (by rw [← isort_length (lt := ltSel) xs, e]; rfl))
theorem ordF_le (xs : List (Int × Int)) : (ordF xs).length ≤ xs.length := by
  have := foldO_le (isort ltSel xs)
  rwa [isort_length] at this
theorem ltSel_span (x y : Int × Int) : ltSel x y = ltS (sspan x) (sspan y) := rfl
theorem ordF_spec (xs : List (Int × Int)) : Sep ((ordF xs).map sspan) ∧ ∀ y, cov ((ordF xs).map sspan) y ↔ cov (xs.map sspan) y := by
  have hs : Sorted ltS ((isort ltSel xs).map sspan) := by
    have := isort_sorted ltSel_swo xs
    exact List.pairwise_map.2 this
  have h := joinF_spec _ hs (fun p hp => by
    obtain ⟨s, _, rfl⟩ := List.mem_map.1 hp
    exact sspan_le s)
  unfold ordF
  rw [foldO_span]
  refine ⟨h.1, fun y => (h.2.1 y).trans (cov_mem (fun p => ?_) y)⟩
  simp only [List.mem_map, (isort_perm xs).mem_iff]
/-- rising, parted -/
def Par (xs : List (Int × Int)) : Prop := xs.Pairwise fun p q => (sspan p).2 < (sspan q).1
theorem ordF_par (xs : List (Int × Int)) : Par (ordF xs) := List.pairwise_map.1 (ordF_spec xs).1.2
theorem foldO_par (ys : List (Int × Int)) (h : Par ys) : foldO ys = ys := by
  induction ys using snoc_ind with
  | h0 => rfl
  | h1 ys q ih =>
    obtain ⟨h1, _, h2⟩ := List.pairwise_append.1 h
    rw [foldO_snoc, ih h1]
    rcases snoc_or ys with e | ⟨A, l, e⟩
    · rw [e, stepO_nil]; rfl
    · rw [e, stepO_snoc, if_neg]
      have := h2 l (by rw [e]; simp) q (by simp)
      rw [touchB_iff]
      have h3 := sspan_le l
      have h4 := sspan_le q
      omega
theorem ordF_id (xs : List (Int × Int)) (h : Par xs) : ordF xs = xs := by
  have hs : Sorted ltSel xs := h.imp_of_mem fun {a b} _ _ hab => by
    have h3 := sspan_le a
    rw [← Bool.not_eq_true, ltSel_iff]
    omega
  unfold ordF
  rw [isort_id hs, foldO_par xs h]
/-! ### Norm -/
theorem normE_zero {n : Int} {xs : List (Int × Int)} (h1 : xs ≠ []) (h2 : xs.length ≤ 64) (h3 : ∀ s ∈ xs, mayB (sspan s) n = true) : normE n xs = 0 := by
  unfold normE
  rw [if_neg (by intro e; exact h1 (List.eq_nil_of_length_eq_zero e)), if_neg (by omega), if_neg]
  rw [List.any_eq_true]
  rintro ⟨s, hs, hb⟩
  rw [h3 s hs] at hb
  cases hb
theorem normF_zero {n : Int} {xs : List (Int × Int)} (h : normE n xs = 0) : normF n xs = ordF xs := by unfold normF; rw [if_pos h]
theorem may_iff {p : Int × Int} {n : Int} : mayB p n = true ↔ 0 ≤ p.1 ∧ p.1 ≤ p.2 ∧ p.2 ≤ n := by simp [mayB, and_assoc]
theorem may_join {n : Int} (l s : Int × Int) (h1 : mayB (sspan l) n = true) (h2 : mayB (sspan s) n = true) (ht : touchB (sspan l) (sspan s) = true) : mayB (sspan (joinO l s)) n = true := by
  rw [sspan_joinO l s ht]
  rw [may_iff] at *
  simp only
  omega
theorem normE_again {n : Int} {xs : List (Int × Int)} (h1 : xs ≠ []) (h2 : xs.length ≤ 64) (h3 : ∀ s ∈ xs, mayB (sspan s) n = true) : normE n (ordF xs) = 0 :=
  normE_zero (ordF_pos xs h1) (Nat.le_trans (ordF_le xs) h2) (ordF_all may_join xs h3)
theorem low_range (x m : Int) (h : 0 < m) (h2 : m ≤ 9223372036854775807) : 0 ≤ lowF x m ∧ lowF x m < m := by
  have e : IntKind.u64.wrap m = m := by simp [IntKind.wrap, IntKind.signed, IntKind.bits]; omega
  have hx : 0 ≤ IntKind.u64.wrap x := by simp [IntKind.wrap, IntKind.signed, IntKind.bits]; omega
  unfold lowF
  rw [e, Int.tmod_eq_emod_of_nonneg hx]
  have h3 := Int.emod_nonneg (IntKind.u64.wrap x) (show m ≠ 0 by omega)
  have h4 := Int.emod_lt_of_pos (IntKind.u64.wrap x) h
  rw [IntWalk.i64_in _ (by omega)]
  omega
theorem someF_may (xs : List (Int × Int)) : ∀ s ∈ someF xs, 0 ≤ s.1 ∧ s.1 ≤ 60 ∧ 0 ≤ s.2 ∧ s.2 ≤ 60 := by
  intro s hs
  obtain ⟨p, _, rfl⟩ := List.mem_map.1 hs
  have a := low_range p.1 61 (by omega) (by omega)
  have b := low_range p.2 61 (by omega) (by omega)
  simp only
  omega
theorem may_some {n : Int} {s : Int × Int} (h : 0 ≤ s.1 ∧ s.1 ≤ n ∧ 0 ≤ s.2 ∧ s.2 ≤ n) : mayB (sspan s) n = true := by
  rw [may_iff]; simp only [sspan]; omega
theorem some_ne {xs : List (Int × Int)} (h : 0 < xs.length) : someF xs ≠ [] := by
  intro e
  have := someF_len xs
  rw [e] at this
  simp at this; omega
theorem norm_some {xs : List (Int × Int)} (h1 : 0 < xs.length) (h2 : xs.length ≤ 64) : normE 60 (someF xs) = 0 :=
  normE_zero (some_ne h1) (by rw [someF_len]; exact h2) fun s hs => may_some (someF_may xs s hs)
theorem norm_some2 {xs : List (Int × Int)} (h1 : 0 < xs.length) (h2 : xs.length ≤ 64) : normE 60 (ordF (someF xs)) = 0 :=
  normE_again (some_ne h1) (by rw [someF_len]; exact h2) fun s hs => may_some (someF_may xs s hs)
theorem any_span (xs : List (Int × Int)) (n : Int) : (xs.any fun s => hasB (sspan s) n) = true ↔ cov (xs.map sspan) (2 * n) := by
  rw [List.any_eq_true]
  constructor
  · rintro ⟨s, hs, h⟩; simp [hasB] at h; exact ⟨sspan s, List.mem_map_of_mem hs, by omega, by omega⟩
  · rintro ⟨p, hp, h1, h2⟩
    obtain ⟨s, hs, rfl⟩ := List.mem_map.1 hp
    exact ⟨s, hs, by simp [hasB]; omega⟩
theorem ord_any (xs : List (Int × Int)) (n : Int) : ((ordF xs).any fun s => hasB (sspan s) n) = xs.any fun s => hasB (sspan s) n := by
  rw [Bool.eq_iff_iff, any_span, any_span, (ordF_spec xs).2]
theorem par_at {xs : List (Int × Int)} (h : Par xs) {i j : Nat} (hij : i < j) (hj : j < xs.length) : (sspan (nth xs (i : Int))).2 < (sspan (nth xs (j : Int))).1 := by
  have := List.pairwise_iff_getElem.1 h i j (by omega) hj hij
  rwa [nth_of (List.getElem?_eq_getElem (show i < xs.length by omega)), nth_of (List.getElem?_eq_getElem hj)]
theorem nth_mem {α : Type} [Inhabited α] {xs : List α} {i : Nat} (h : i < xs.length) : nth xs (i : Int) ∈ xs := List.mem_of_getElem? (nth_lt h)
theorem any_snoc {α : Type} [Inhabited α] {xs : List α} {f : α → Bool} {k : Nat} (h : k < xs.length) : (xs.take (k + 1)).any f = ((xs.take k).any f || f (nth xs (k : Int))) := by
  rw [take_snoc h]; simp
/-! ### all of one way -/
theorem way_join {b : Bool} (l s : Int × Int) (h1 : decide (l.2 < l.1) = b) (h2 : decide (s.2 < s.1) = b) (ht : touchB (sspan l) (sspan s) = true) : decide ((joinO l s).2 < (joinO l s).1) = b := by
  have h := sspan_le l
  unfold joinO
  cases b with
  | true =>
    have h3 := of_decide_eq_true h1
    rw [if_pos h1]
    apply decide_eq_true
    simp only [sspan] at h ⊢
    omega
  | false =>
    rw [if_neg (by rw [h1]; decide)]
    apply decide_eq_false
    simp only
    omega
/-! ### moved along -/
def shift (k : Int) (s : Int × Int) : Int × Int := (s.1 + k, s.2 + k)
theorem sspan_shift (k : Int) (s : Int × Int) : sspan (shift k s) = ((sspan s).1 + k, (sspan s).2 + k) := by
  simp only [sspan, shift]; congr 1 <;> omega
theorem insRev_map {α β : Type} {f : α → β} {lt : β → β → Bool} {lt' : α → α → Bool} (h : ∀ x y, lt (f x) (f y) = lt' x y) (x : α) : ∀ ys : List α, insRev lt (f x) (ys.map f) = (insRev lt' x ys).map f
  | [] => rfl
  | y :: ys => by
    rw [List.map_cons, insRev, insRev, h]
    split
    · rw [insRev_map h x ys]; rfl
    · rfl
theorem isort_map {α β : Type} {f : α → β} {lt : β → β → Bool} {lt' : α → α → Bool} (h : ∀ x y, lt (f x) (f y) = lt' x y) (xs : List α) : isort lt (xs.map f) = (isort lt' xs).map f := by
  induction xs using snoc_ind with
  | h0 => rfl
  | h1 xs x ih =>
    rw [List.map_append, List.map_singleton, isort_snoc, isort_snoc, ih]
    unfold ins
    rw [← List.map_reverse, insRev_map h, List.map_reverse]
theorem ltSel_shift (k : Int) (x y : Int × Int) : ltSel (shift k x) (shift k y) = ltSel x y := by
  rw [Bool.eq_iff_iff, ltSel_iff, ltSel_iff, sspan_shift, sspan_shift]
  simp only
  omega
theorem joinO_shift (k : Int) (l s : Int × Int) : joinO (shift k l) (shift k s) = shift k (joinO l s) := by
  unfold joinO
  rw [sspan_shift, sspan_shift]
  have : decide ((shift k l).2 < (shift k l).1) = decide (l.2 < l.1) := decide_eq_decide.2 (by simp only [shift]; omega)
  rw [this]
  split
  · simp only [shift]; congr 1; omega
  · simp only [shift]; congr 1; omega
theorem foldO_shift (k : Int) (ys : List (Int × Int)) : foldO (ys.map (shift k)) = (foldO ys).map (shift k) := by
  induction ys using snoc_ind with
  | h0 => rfl
  | h1 ys s ih =>
    rw [List.map_append, List.map_singleton, foldO_snoc, foldO_snoc, ih]
    rcases snoc_or (foldO ys) with h | ⟨A, l, h⟩
    · rw [h, stepO_nil]; rfl
    · rw [h, List.map_append, List.map_singleton, stepO_snoc, stepO_snoc]
      have : touchB (sspan (shift k l)) (sspan (shift k s)) = touchB (sspan l) (sspan s) := by
        rw [Bool.eq_iff_iff, touchB_iff, touchB_iff, sspan_shift, sspan_shift]
        simp only
        omega
      rw [this]
      split
      · rw [joinO_shift]; simp
      · simp
theorem ordF_shift (k : Int) (xs : List (Int × Int)) : ordF (xs.map (shift k)) = (ordF xs).map (shift k) := by
  unfold ordF
  rw [isort_map (ltSel_shift k), foldO_shift]
theorem nth_map {α β : Type} [Inhabited α] [Inhabited β] {f : α → β} {xs : List α} {i : Nat} (h : i < xs.length) : nth (xs.map f) (i : Int) = f (nth xs (i : Int)) :=
  nth_of (by rw [List.getElem?_map, nth_lt h]; rfl)
/-! ### typed at carets -/
def caret (x : Int) : Int × Int := (lowF x 200, lowF x 200)
def Car (s : Int × Int) : Prop := s.1 = s.2 ∧ 0 ≤ s.1 ∧ s.1 ≤ 199
theorem car_join (l s : Int × Int) (h1 : Car l) (h2 : Car s) (ht : touchB (sspan l) (sspan s) = true) : Car (joinO l s) := by
  rw [touchB_iff] at ht
  unfold Car at *
  unfold joinO
  split <;> simp only [sspan] at * <;> omega
theorem car_caret (xs : List Int) : ∀ s ∈ xs.map caret, Car s := by
  intro s hs
  obtain ⟨x, _, rfl⟩ := List.mem_map.1 hs
  have := low_range x 200 (by omega) (by omega)
  exact ⟨rfl, this.1, by simp only [caret]; omega⟩
theorem norm_caret {xs : List Int} (h1 : 0 < xs.length) (h2 : xs.length ≤ 64) : normE 200 (xs.map caret) = 0 :=
  normE_zero (by intro e; have := congrArg List.length e; simp at this; rw [this] at h1; simp at h1) (by simpa using h2) fun s hs => by
    have := car_caret xs s hs
    unfold Car at this
    exact may_some (by omega)
def put (t : ByteArray) (s : Int × Int) : Int × Int × ByteArray := ((sspan s).1, (sspan s).2, t)
theorem foldM_rev (n : Int) (r : Bool) (ys : List (Int × Int × ByteArray)) : foldM n r ys.reverse = ys.foldr (fun e a => oneW a r e) n := by
  unfold foldM
  rw [List.foldl_reverse]
theorem one_on {t : ByteArray} {s : Int × Int} (hs : Car s) (ht : t.size ≤ 30) : oneW s.1 true (put t s) = s.1 + t.size := by
  unfold Car at hs
  have e : sspan s = (s.1, s.1) := by simp only [sspan]; congr 1 <;> omega
  unfold oneW put
  simp only [e]
  rw [if_neg (by omega), if_neg (by omega), if_pos trivial, IntWalk.i64_in _ (by omega)]
theorem one_ahead {t : ByteArray} {s : Int × Int} {n : Int} (hs : Car s) (h : n < s.1) : oneW n true (put t s) = n := by
  unfold Car at hs
  have e : sspan s = (s.1, s.1) := by simp only [sspan]; congr 1 <;> omega
  unfold oneW put
  simp only [e]
  rw [if_pos h]
theorem one_behind {t : ByteArray} {s : Int × Int} {n : Int} (hs : Car s) (h : s.1 < n) (hn : n ≤ 1000000) (ht : t.size ≤ 30) : oneW n true (put t s) = n + t.size := by
  unfold Car at hs
  have e : sspan s = (s.1, s.1) := by simp only [sspan]; congr 1 <;> omega
  have e0 : lenW (s.1, s.1) = 0 := by
    unfold lenW
    simp only [Int.sub_self]
    rw [IntWalk.i64_in _ (by omega)]
  unfold oneW put
  simp only [e, e0]
  rw [if_neg (by omega), if_pos h, IntWalk.i64_in ((t.size : Int) - 0) (by omega), IntWalk.i64_in _ (by omega)]
  omega
theorem foldr_ahead {t : ByteArray} {n : Int} (Q : List (Int × Int)) (h : ∀ q ∈ Q, Car q ∧ n < q.1) : (Q.map (put t)).foldr (fun e a => oneW a true e) n = n := by
  induction Q with
  | nil => rfl
  | cons q Q ih =>
    rw [List.map_cons, List.foldr_cons, ih (fun q' hq => h q' (by simp [hq])), one_ahead (h q (by simp)).1 (h q (by simp)).2]
theorem foldr_behind {t : ByteArray} (ht : t.size ≤ 30) {n : Int} (P : List (Int × Int)) (h : ∀ p ∈ P, Car p ∧ p.1 < n) (hn : n + P.length * 30 ≤ 1000000) : (P.map (put t)).foldr (fun e a => oneW a true e) n = n + P.length * t.size := by
  induction P with
  | nil => simp
  | cons p P ih =>
    simp only [List.length_cons] at hn
    have h1 := ih (fun p' hp => h p' (by simp [hp])) (by omega)
    have h2 := h p (by simp)
    have hm : (P.length : Int) * t.size ≤ P.length * 30 := Int.mul_le_mul_of_nonneg_left (by omega) (by omega)
    have h0 : (0 : Int) ≤ (P.length : Int) * t.size := Int.mul_nonneg (by omega) (by omega)
    rw [List.map_cons, List.foldr_cons, h1, one_behind h2.1 (by omega) (by omega) ht]
    simp only [List.length_cons]
    rw [show ((P.length + 1 : Nat) : Int) = (P.length : Int) + 1 by omega, Int.add_mul]
    omega
theorem car_par {xs : List (Int × Int)} (hc : ∀ s ∈ xs, Car s) (h : Par xs) : xs.Pairwise fun p q => p.1 < q.1 := by
  refine h.imp_of_mem fun {a b} ha hb hab => ?_
  have h1 := hc a ha
  have h2 := hc b hb
  unfold Car at h1 h2
  simp only [sspan] at hab
  omega
theorem put_sorted {t : ByteArray} {xs : List (Int × Int)} (hc : ∀ s ∈ xs, Car s) (h : Par xs) : isort ltE (xs.map (put t)) = xs.map (put t) := by
  refine isort_id (List.pairwise_map.2 ((car_par hc h).imp_of_mem fun {a b} ha hb hab => ?_))
  have h1 := hc a ha
  have h2 := hc b hb
  unfold Car at h1 h2
  rw [← Bool.not_eq_true, ltE_iff]
  simp only [put, sspan]
  omega
/-- behind the typing -/
def typ (z : Int) : Nat → List (Int × Int) → List (Int × Int)
  | _, [] => []
  | k, c :: cs => (c.1 + ((k : Int) + 1) * z, c.1 + ((k : Int) + 1) * z) :: typ z (k + 1) cs
theorem typ_len (z : Int) : ∀ (k : Nat) (xs : List (Int × Int)), (typ z k xs).length = xs.length
  | _, [] => rfl
  | k, c :: cs => by simp [typ, typ_len z (k + 1) cs]
theorem typ_get (z : Int) : ∀ (k : Nat) (xs : List (Int × Int)) (i : Nat), i < xs.length → nth (typ z k xs) (i : Int) = ((nth xs (i : Int)).1 + ((k : Int) + (i : Int) + 1) * z, (nth xs (i : Int)).1 + ((k : Int) + (i : Int) + 1) * z)
  | _, [], i, h => by simp at h
  | k, c :: cs, 0, _ => by simp [typ, nth]
  | k, c :: cs, i + 1, h => by
    have ih := typ_get z (k + 1) cs i (by simpa using h)
    have e1 : nth (typ z k (c :: cs)) ((i + 1 : Nat) : Int) = nth (typ z (k + 1) cs) (i : Int) := by simp [typ, nth]
    have e2 : nth (c :: cs) ((i + 1 : Nat) : Int) = nth cs (i : Int) := by simp [nth]
    rw [e1, e2, ih, show ((k + 1 : Nat) : Int) + (i : Int) + 1 = (k : Int) + ((i + 1 : Nat) : Int) + 1 by omega]
theorem typ_map {t : ByteArray} (ht : t.size ≤ 30) (all : List (Int × Int)) (hc : ∀ s ∈ all, Car s) (hp : Par all) (hl : all.length ≤ 1000) : ∀ (P Q : List (Int × Int)), all = P ++ Q → Q.map (mvS (all.map (put t))) = typ t.size P.length Q
  | P, [], _ => rfl
  | P, c :: Q, e => by
    have hx := car_par hc hp
    rw [e] at hx
    obtain ⟨_, h2, h3⟩ := List.pairwise_append.1 hx
    have hcc := hc c (by rw [e]; simp)
    have mv : moveW c.1 true (all.map (put t)) = c.1 + ((P.length : Int) + 1) * t.size := by
      unfold moveW
      rw [put_sorted hc hp, foldM_rev, e, List.map_append, List.map_cons, List.foldr_append, List.foldr_cons,
        foldr_ahead Q (fun q hq => ⟨hc q (by rw [e]; simp [hq]), (List.pairwise_cons.1 h2).1 q hq⟩), one_on hcc ht]
      have hl2 : P.length ≤ 1000 := by rw [e] at hl; simp at hl; omega
      unfold Car at hcc
      rw [foldr_behind ht P (fun p hp => ⟨hc p (by rw [e]; simp [hp]), by have := h3 p hp c (by simp); omega⟩) (by omega), Int.add_mul]
      omega
    rw [List.map_cons, typ]
    have e2 : c.2 = c.1 := hcc.1.symm
    congr 1
    · unfold mvS
      rw [e2, mv]
    · have := typ_map ht all hc hp hl (P ++ [c]) Q (by rw [e]; simp)
      rw [this]; simp
theorem typ_par {z : Int} (hz : 0 ≤ z) : ∀ (k : Nat) (xs : List (Int × Int)), xs.Pairwise (fun p q => p.1 < q.1) → Par (typ z k xs)
  | _, [], _ => List.Pairwise.nil
  | k, c :: cs, h => by
    obtain ⟨h1, h2⟩ := List.pairwise_cons.1 h
    refine List.pairwise_cons.2 ⟨fun q hq => ?_, typ_par hz (k + 1) cs h2⟩
    obtain ⟨i, hi, rfl⟩ := List.getElem_of_mem hq
    rw [typ_len] at hi
    have := typ_get z (k + 1) cs i hi
    rw [nth_of (List.getElem?_eq_getElem (by rw [typ_len]; exact hi))] at this
    rw [this]
    have h4 := h1 _ (nth_mem hi)
    have hm : ((k : Int) + 1) * z ≤ (((k + 1 : Nat) : Int) + (i : Int) + 1) * z := Int.mul_le_mul_of_nonneg_right (by omega) hz
    simp only [sspan]
    omega
theorem typed {t : ByteArray} (ht : t.size ≤ 30) (all : List (Int × Int)) (hc : ∀ s ∈ all, Car s) (hp : Par all) (hl : all.length ≤ 1000) : moveS (all.map (put t)) all = typ t.size 0 all := by
  unfold moveS
  rw [typ_map ht all hc hp hl [] all rfl]
  exact ordF_id _ (typ_par (by omega) 0 all (car_par hc hp))
end B
end Go.Proofs.Ytjapbdofhbfmfaa
