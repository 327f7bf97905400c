/-
  What the walks of chapter 6 tell: edits as the code adds them up, step by step. No program.
-/
import Derived.Test.YtfkjmkngiiokmaaChgP
set_option linter.unusedSimpArgs false
set_option linter.unusedVariables false
namespace Go.Proofs.Ytfkjmkngiiokmaa
namespace B
open Srt
def revS {α : Type} [Inhabited α] (xs : List α) : Nat → List α
  | 0 => xs
  | n + 1 => swp (revS xs n) (n : Int) ((xs.length : Int) - 1 - n)
theorem revS_len {α : Type} [Inhabited α] (xs : List α) (n : Nat) : (revS xs n).length = xs.length := by
  induction n with
  | zero => rfl
  | succ n ih => rw [revS, swp_len, ih]
theorem revS_spec {α : Type} [Inhabited α] : ∀ (n : Nat) (A M B : List α), A.length = n → B.length = n → revS (A ++ (M ++ B)) n = B.reverse ++ (M ++ A.reverse) := by
  intro n
  induction n with
  | zero => intro A M B hA hB; obtain rfl := List.eq_nil_of_length_eq_zero hA; obtain rfl := List.eq_nil_of_length_eq_zero hB; simp [revS]
  | succ n ih =>
    intro A M B hA hB
    obtain ⟨A', x, rfl⟩ : ∃ P' y, A = P' ++ [y] := ⟨A.dropLast, A.getLast (by intro e; simp [e] at hA), (List.dropLast_concat_getLast _).symm⟩
    obtain ⟨y, B', rfl⟩ : ∃ y B', B = y :: B' := by cases B with | nil => simp at hB | cons y B' => exact ⟨y, B', rfl⟩
    simp at hA hB
    have h1 := ih A' (x :: (M ++ [y])) B' hA hB
    rw [revS, show A' ++ [x] ++ (M ++ y :: B') = A' ++ (x :: (M ++ [y]) ++ B') by simp, h1]
    have := swp_lt (A := B'.reverse) (M := M) (C := A'.reverse) (x := x) (y := y) (i := (n : Int)) (j := ((A' ++ (x :: (M ++ [y]) ++ B')).length : Int) - 1 - n) (by simp; omega) (by simp; omega)
    simpa using this
theorem revS_all {α : Type} [Inhabited α] {xs : List α} {n : Nat} (h1 : 2 * n ≤ xs.length) (h2 : xs.length ≤ 2 * n + 1) : revS xs n = xs.reverse := by
  have e : xs = xs.take n ++ (seg xs n (xs.length - n) ++ xs.drop (xs.length - n)) := by
    rw [← seg_drop (by omega), List.take_append_drop]
  have hl : (seg xs n (xs.length - n)).length ≤ 1 := by rw [seg_len (by omega)]; omega
  have hr : (seg xs n (xs.length - n)).reverse = seg xs n (xs.length - n) := by
    generalize seg xs n (xs.length - n) = m at hl
    match m, hl with
    | [], _ => rfl
    | [a], _ => rfl
  have h3 := revS_spec n (xs.take n) (seg xs n (xs.length - n)) (xs.drop (xs.length - n)) (by simp; omega) (by simp; omega)
  rw [← e] at h3
  rw [h3]
  conv => rhs; rw [e]
  simp [hr]
def oneW (a : Int) (r : Bool) (e : Int × Int × ByteArray) : Int := if a < e.1 then a else if e.2.1 < a then IntKind.i64.wrap (a + IntKind.i64.wrap ((e.2.2.size : Int) - lenW (e.1, e.2.1))) else if r = true then IntKind.i64.wrap (e.1 + (e.2.2.size : Int)) else e.1
def foldM (n : Int) (r : Bool) (xs : List (Int × Int × ByteArray)) : Int := xs.foldl (fun a e => oneW a r e) n
def moveW (n : Int) (r : Bool) (xs : List (Int × Int × ByteArray)) : Int := foldM n r (isort ltE xs).reverse
theorem foldM_succ {n : Int} {r : Bool} {xs : List (Int × Int × ByteArray)} {k : Nat} (h : k < xs.length) : foldM n r (xs.take (k + 1)) = oneW (foldM n r (xs.take k)) r (nth xs (k : Int)) := by
  rw [take_snoc h]; simp [foldM]
theorem foldM_lt {n : Int} {r : Bool} {xs : List (Int × Int × ByteArray)} {k : Nat} (h : k < xs.length) (hc : foldM n r (xs.take k) < (nth xs (k : Int)).1) : foldM n r (xs.take k) = foldM n r (xs.take (k + 1)) := by
  rw [foldM_succ h, oneW, if_pos hc]
theorem foldM_gt {n : Int} {r : Bool} {xs : List (Int × Int × ByteArray)} {k : Nat} (h : k < xs.length) (hc : (nth xs (k : Int)).1 ≤ foldM n r (xs.take k)) (hd : (nth xs (k : Int)).2.1 < foldM n r (xs.take k)) :
    IntKind.i64.wrap (foldM n r (xs.take k) + IntKind.i64.wrap (((nth xs (k : Int)).2.2.size : Int) - lenW ((nth xs (k : Int)).1, (nth xs (k : Int)).2.1))) = foldM n r (xs.take (k + 1)) := by
  rw [foldM_succ h, oneW, if_neg (by omega), if_pos hd]
theorem foldM_in {n : Int} {r : Bool} {xs : List (Int × Int × ByteArray)} {k : Nat} (h : k < xs.length) (hc : (nth xs (k : Int)).1 ≤ foldM n r (xs.take k)) (hd : foldM n r (xs.take k) ≤ (nth xs (k : Int)).2.1) (hr : r = true) :
    IntKind.i64.wrap ((nth xs (k : Int)).1 + ((nth xs (k : Int)).2.2.size : Int)) = foldM n r (xs.take (k + 1)) := by
  rw [foldM_succ h, oneW, if_neg (by omega), if_neg (by omega), if_pos hr]
theorem foldM_at {n : Int} {r : Bool} {xs : List (Int × Int × ByteArray)} {k : Nat} (h : k < xs.length) (hc : (nth xs (k : Int)).1 ≤ foldM n r (xs.take k)) (hd : foldM n r (xs.take k) ≤ (nth xs (k : Int)).2.1) (hr : r = false) :
    (nth xs (k : Int)).1 = foldM n r (xs.take (k + 1)) := by
  rw [foldM_succ h, oneW, if_neg (by omega), if_neg (by omega), if_neg (by rw [hr]; decide)]
theorem map_succ {α β : Type} [Inhabited α] {f : α → β} {xs : List α} {k : Nat} (h : k < xs.length) : (xs.take (k + 1)).map f = (xs.take k).map f ++ [f (nth xs (k : Int))] := by
  rw [take_snoc h, List.map_append]; rfl
theorem low_range (x m : Int) (h : 0 < m) (h2 : m ≤ 9223372036854775807) : 0 ≤ lowF x m ∧ lowF x m < m := by
  have e : IntKind.u64.wrap m = m := by simp [IntKind.wrap, IntKind.signed, IntKind.bits]; omega
  have hx : 0 ≤ IntKind.u64.wrap x := by simp [IntKind.wrap, IntKind.signed, IntKind.bits]; omega
  unfold lowF
  rw [e, Int.tmod_eq_emod_of_nonneg hx]
  have h3 := Int.emod_nonneg (IntKind.u64.wrap x) (show m ≠ 0 by omega)
  have h4 := Int.emod_lt_of_pos (IntKind.u64.wrap x) h
  rw [IntWalk.i64_in _ (by omega)]
  omega
theorem w_eq (n : Int) : IntKind.i64.wrap n = (n + 9223372036854775808) % 18446744073709551616 - 9223372036854775808 := by
  have e : IntKind.i64.wrap n = if 9223372036854775808 ≤ n % 18446744073709551616 then n % 18446744073709551616 - 18446744073709551616 else n % 18446744073709551616 := by simp [IntKind.wrap, IntKind.signed, IntKind.bits]
  rw [e]
  split <;> omega
theorem w_in {n : Int} (h : -9223372036854775808 ≤ n ∧ n ≤ 9223372036854775807) : IntKind.i64.wrap n = n := by rw [w_eq]; omega
theorem w_idem (n : Int) : IntKind.i64.wrap (IntKind.i64.wrap n) = IntKind.i64.wrap n := by simp only [w_eq]; omega
theorem nth_mem {α : Type} [Inhabited α] {xs : List α} {k : Nat} (h : k < xs.length) : nth xs (k : Int) ∈ xs := List.mem_of_getElem? (nth_lt h)
theorem nth_memI {α : Type} [Inhabited α] {xs : List α} {i : Int} (h0 : 0 ≤ i) (h : i < xs.length) : nth xs i ∈ xs := List.mem_of_getElem? (nth_some h0 h)
/-! ### May -/
def grownW (n : Int) (es : List Ed) : Int := es.foldl (fun a e => IntKind.i64.wrap (a + IntKind.i64.wrap ((e.2.2.size : Int) - lenW (e.1, e.2.1)))) n
theorem grownW_succ {n : Int} {es : List Ed} {k : Nat} (h : k < es.length) : IntKind.i64.wrap (grownW n (es.take k) + IntKind.i64.wrap (((nth es (k : Int)).2.2.size : Int) - lenW ((nth es (k : Int)).1, (nth es (k : Int)).2.1))) = grownW n (es.take (k + 1)) := by
  rw [take_snoc h]; simp [grownW]
theorem grownR_succ {n : Int} {es : List Ed} {k : Nat} (h : k < es.length) : IntKind.i64.wrap (IntKind.i64.wrap (grownW n (es.take k) + ((nth es (k : Int)).2.2.size : Int)) - IntKind.i64.wrap ((nth es (k : Int)).2.1 - (nth es (k : Int)).1)) = grownW n (es.take (k + 1)) := by
  rw [← grownW_succ h]
  simp only [lenW, w_eq]
  omega
theorem grownW_eq {n : Int} {es : List Ed} (h : -1000000000000 ≤ n ∧ n ≤ 1000000000000) (he : ∀ e ∈ es, 0 ≤ e.1 ∧ e.1 ≤ e.2.1 ∧ e.2.1 ≤ 1000000) (hz : sizes es ≤ 1000000) (hl : es.length ≤ 1000000) : grownW n es = grown n es := by
  suffices H : ∀ (es : List Ed) (n : Int), (∀ e ∈ es, 0 ≤ e.1 ∧ e.1 ≤ e.2.1 ∧ e.2.1 ≤ 1000000 ∧ e.2.2.size ≤ 1000000) → -1000000 * (1000000 - (es.length : Int)) - 1000000000000 ≤ n → n ≤ 1000000 * (1000000 - (es.length : Int)) + 1000000000000 → es.length ≤ 1000000 → grownW n es = grown n es from
    H es n (fun e m => by have := he e m; have := sizes_mem m; omega) (by omega) (by omega) hl
  intro es
  induction es with
  | nil => intro n _ _ _ _; rfl
  | cons e es ih =>
    intro n h1 h2 h3 h4
    have hb := h1 e (by simp)
    simp only [List.length_cons] at h2 h3 h4
    have e1 : grownW n (e :: es) = grownW (n + ((e.2.2.size : Int) - (e.2.1 - e.1))) es := by
      simp only [grownW, List.foldl_cons, lenW, w_eq]
      congr 1
      omega
    rw [e1, grown_cons]
    exact ih _ (fun f hf => h1 f (by simp [hf])) (by omega) (by omega) (by omega)
def mayEd (n : Int) (es : List Ed) : Int := if (es.any fun e => !mayB (sp e) n) = true then 3 else if apartF (isort ltS (es.map sp)) = false then 5 else if 65536 < grownW n es then 4 else 0
def rangedF (n : Int) (es : List Ed) : Int := if (es.any fun e => !mayB (sp e) n) = true then 3 else if apartR (isort lessB (es.map sp)) = false then 5 else 0
theorem any_3 {n : Int} {es : List Ed} {k : Nat} (h : k < es.length) (hb : (!mayB (sp (nth es (k : Int))) n) = true) : (es.any fun e => !mayB (sp e) n) = true :=
  List.any_eq_true.2 ⟨_, nth_mem h, hb⟩
theorem any_0 {n : Int} {es : List Ed} {k : Nat} (hq : ∀ i < k, (!mayB (sp (nth es ((i : Nat) : Int))) n) = false) (hk : es.length ≤ k) : ¬ (es.any fun e => !mayB (sp e) n) = true := by
  rw [List.any_eq_true]
  rintro ⟨s, hs, hb⟩
  obtain ⟨i, hi, rfl⟩ := List.getElem_of_mem hs
  have := hq i (by omega)
  rw [nth_of (List.getElem?_eq_getElem hi), hb] at this
  cases this
theorem mayEd_3 {n : Int} {es : List Ed} {k : Nat} (h : k < es.length) (hb : (!mayB (sp (nth es (k : Int))) n) = true) : mayEd n es = 3 := by
  rw [mayEd, if_pos (any_3 h hb)]
theorem mayEd_5 {n : Int} {es : List Ed} {k : Nat} (hq : ∀ i < k, (!mayB (sp (nth es ((i : Nat) : Int))) n) = false) (hk : es.length ≤ k) (h5 : (!apartF (isort ltS (List.map sp es))) = true) : mayEd n es = 5 := by
  rw [mayEd, if_neg (any_0 hq hk), if_pos (by simpa using h5)]
theorem mayEd_4 {n : Int} {es : List Ed} {k : Nat} (hq : ∀ i < k, (!mayB (sp (nth es ((i : Nat) : Int))) n) = false) (hk : es.length ≤ k) (h5 : (!apartF (isort ltS (List.map sp es))) = false) (h4 : 65536 < grownW n es) : mayEd n es = 4 := by
  rw [mayEd, if_neg (any_0 hq hk), if_neg (by simpa using h5), if_pos h4]
theorem mayEd_0 {n : Int} {es : List Ed} {k : Nat} (hq : ∀ i < k, (!mayB (sp (nth es ((i : Nat) : Int))) n) = false) (hk : es.length ≤ k) (h5 : (!apartF (isort ltS (List.map sp es))) = false) (h4 : grownW n es ≤ 65536) : mayEd n es = 0 := by
  rw [mayEd, if_neg (any_0 hq hk), if_neg (by simpa using h5), if_neg (by omega)]
theorem rangedF_3 {n : Int} {es : List Ed} {k : Nat} (h : k < es.length) (hb : (!mayB (sp (nth es (k : Int))) n) = true) : rangedF n es = 3 := by
  rw [rangedF, if_pos (any_3 h hb)]
theorem rangedF_5 {n : Int} {es : List Ed} {k : Nat} (hq : ∀ i < k, (!mayB (sp (nth es ((i : Nat) : Int))) n) = false) (hk : es.length ≤ k) (h5 : (!apartR (isort lessB (List.map sp es))) = true) : rangedF n es = 5 := by
  rw [rangedF, if_neg (any_0 hq hk), if_pos (by simpa using h5)]
theorem rangedF_0 {n : Int} {es : List Ed} {k : Nat} (hq : ∀ i < k, (!mayB (sp (nth es ((i : Nat) : Int))) n) = false) (hk : es.length ≤ k) (h5 : (!apartR (isort lessB (List.map sp es))) = false) : rangedF n es = 0 := by
  rw [rangedF, if_neg (any_0 hq hk), if_neg (by simpa using h5)]
theorem refMay_r {n : Int} {es : List Ed} (h : ¬ rangedF n es = 0) : mayEd n es = rangedF n es := by
  unfold mayEd rangedF at *
  rw [apartR_eq] at *
  by_cases h1 : (es.any fun e => !mayB (sp e) n) = true
  · rw [if_pos h1, if_pos h1]
  · rw [if_neg h1] at h
    rw [if_neg h1, if_neg h1]
    by_cases h2 : apartF (isort ltS (es.map sp)) = false
    · rw [if_pos h2, if_pos h2]
    · rw [if_neg h2] at h; exact absurd rfl h
theorem ranged_0 {n : Int} {es : List Ed} (h : rangedF n es = 0) : ¬ (es.any fun e => !mayB (sp e) n) = true ∧ ¬ apartF (isort ltS (es.map sp)) = false := by
  unfold rangedF at h
  rw [apartR_eq] at h
  by_cases h1 : (es.any fun e => !mayB (sp e) n) = true
  · rw [if_pos h1] at h; cases h
  · rw [if_neg h1] at h
    by_cases h2 : apartF (isort ltS (es.map sp)) = false
    · rw [if_pos h2] at h; cases h
    · exact ⟨h1, h2⟩
theorem refMay_4 {n : Int} {es : List Ed} (h : rangedF n es = 0) (h4 : 65536 < grownW n es) : mayEd n es = 4 := by
  rw [mayEd, if_neg (ranged_0 h).1, if_neg (ranged_0 h).2, if_pos h4]
theorem refMay_0 {n : Int} {es : List Ed} (h : rangedF n es = 0) (h4 : grownW n es ≤ 65536) : mayEd n es = 0 := by
  rw [mayEd, if_neg (ranged_0 h).1, if_neg (ranged_0 h).2, if_neg (by omega)]
theorem may_zero {n : Int} {es : List Ed} : mayEd n es = 0 ↔ (∀ e ∈ es, mayB (sp e) n = true) ∧ (es.map sp).Pairwise R ∧ grownW n es ≤ 65536 := by
  unfold mayEd
  constructor
  · intro h
    split at h
    · cases h
    · rename_i h1
      split at h
      · cases h
      · rename_i h2
        split at h
        · cases h
        · rename_i h3
          have h2' := (apart_iff _).1 (Bool.not_eq_false _ ▸ h2 : apartF (isort ltS (es.map sp)) = true)
          refine ⟨fun e he => ?_, h2'.2, by omega⟩
          cases hm : mayB (sp e) n with
          | true => rfl
          | false => exact absurd (List.any_eq_true.2 ⟨e, he, by rw [hm]; rfl⟩) h1
  · rintro ⟨h1, h2, h3⟩
    rw [if_neg, if_neg, if_neg (by omega)]
    · rw [Bool.not_eq_false, apart_iff]
      refine ⟨fun p hp => ?_, h2⟩
      obtain ⟨e, he, rfl⟩ := List.mem_map.1 hp
      have := h1 e he
      simp only [mayB, Bool.and_eq_true, decide_eq_true_eq] at this
      exact this.1.2
    · rw [List.any_eq_true]
      rintro ⟨e, he, hb⟩
      rw [h1 e he] at hb; cases hb
theorem may_ap {n : Int} {es : List Ed} (h : mayEd n es = 0) (h0 : 0 ≤ n) : Ap 0 n (isort ltE es) := map_isort_ap (may_zero.1 h).1 (may_zero.1 h).2.1 h0
theorem ap_may {n : Int} {L es : List Ed} (h : Ap 0 n L) (hp : es.Perm L) (hn : n ≤ 1000000) (hz : sizes es ≤ 1000000) (hl : es.length ≤ 1000000) : mayEd n es = if 65536 < grown n L then 4 else 0 := by
  have hm : ∀ e ∈ es, 0 ≤ e.1 ∧ e.1 ≤ e.2.1 ∧ e.2.1 ≤ n := fun e he => h.2.1 e (hp.mem_iff.1 he)
  have hg : grownW n es = grown n L := by
    rw [grownW_eq (by have := h.1; omega) (fun e he => by have := hm e he; omega) hz hl, grown_perm hp]
  unfold mayEd
  rw [if_neg, if_neg, hg]
  · rw [Bool.not_eq_false, apart_perm (hp.map sp), apart_iff]
    refine ⟨fun p hp' => ?_, ap_pair h⟩
    obtain ⟨e, he, rfl⟩ := List.mem_map.1 hp'
    exact (h.2.1 e he).2.1
  · rw [List.any_eq_true]
    rintro ⟨e, he, hb⟩
    have h3 := hm e he
    have : mayB (sp e) n = true := by
      simp only [mayB, Bool.and_eq_true, decide_eq_true_eq]
      exact ⟨⟨h3.1, h3.2.1⟩, h3.2.2⟩
    rw [this] at hb; cases hb
/-! ### Apply -/
def applyF (s : ByteArray) (es : List Ed) : ByteArray := if mayEd (s.size : Int) es = 0 then tx (appL (bs s) 0 (isort ltE es)) else ⟨#[]⟩
theorem apply_none {s : ByteArray} {es : List Ed} (h : ¬ mayEd (s.size : Int) es = 0) : applyF s es = ⟨#[]⟩ := by rw [applyF, if_neg h]
theorem ap_at {a n : Int} {L : List Ed} {k : Nat} (h : Ap a n (L.drop k)) (hk : k < L.length) : a ≤ (nth L (k : Int)).1 ∧ (nth L (k : Int)).1 ≤ (nth L (k : Int)).2.1 ∧ (nth L (k : Int)).2.1 ≤ n ∧ Ap (nth L (k : Int)).2.1 n (L.drop (k + 1)) := by
  rw [drop_cons hk] at h
  obtain ⟨h1, h2, _, h4⟩ := ap_cons.1 h
  exact ⟨h1, h2, h4.le, h4⟩
theorem ap_at3 {a n : Int} {L : List Ed} {k : Nat} (h : Ap a n (L.drop k)) : k < L.length → a ≤ (nth L (k : Int)).1 ∧ (nth L (k : Int)).1 ≤ (nth L (k : Int)).2.1 ∧ (nth L (k : Int)).2.1 ≤ n := fun hk => ⟨(ap_at h hk).1, (ap_at h hk).2.1, (ap_at h hk).2.2.1⟩
theorem app_next {s : ByteArray} {L : List Ed} {a k : Nat} {ys Z : List UInt8} (h : k < L.length) (hq : ys ++ appL (bs s) a (L.drop k) = Z) :
    (ys ++ (s.extract a (nth L (k : Int)).1.toNat).data.toList) ++ (nth L (k : Int)).2.2.data.toList ++ appL (bs s) (nth L (k : Int)).2.1.toNat (L.drop (k + 1)) = Z := by
  rw [← hq, drop_cons h, appL, ← bs_extract]
  simp [bs]
theorem app_small {s : ByteArray} {es : List Ed} (h : Ap 0 (s.size : Int) (isort ltE es)) (hs : s.size ≤ 1000000) (hz : sizes es ≤ 1000000) : (appL (bs s) 0 (isort ltE es)).length ≤ 2000000 := by
  have h1 := appL_len (s := bs s) (a := 0) (by rw [bs_len]; exact h)
  have h2 : ∀ L : List Ed, (∀ e ∈ L, e.1 ≤ e.2.1) → grown 0 L ≤ sizes L := by
    intro L
    induction L with
    | nil => intro _; simp [grown, sizes]
    | cons e L ih =>
      intro hL
      have := ih fun f hf => hL f (by simp [hf])
      have := hL e (by simp)
      rw [grown_cons, grown_zero, sizes_cons]; omega
  have h3 := h2 _ fun e he => (h.2.1 e he).2.1
  rw [sizes_perm (isort_perm es)] at h3
  rw [bs_len] at h1
  omega
theorem size_at {es L : List Ed} {k : Nat} (hp : L.Perm es) : k < L.length → ((nth L (k : Int)).2.2.size : Int) ≤ sizes es := fun h => sizes_mem (hp.mem_iff.1 (nth_mem h))
theorem apply_done {s : ByteArray} {es : List Ed} {a k : Nat} {ys : List UInt8} (h : mayEd (s.size : Int) es = 0) (hq : ys ++ appL (bs s) a ((isort ltE es).drop k) = appL (bs s) 0 (isort ltE es)) (hk : (isort ltE es).length ≤ k) :
    applyF s es = ⟨(ys ++ (s.extract a s.size).data.toList).toArray⟩ := by
  rw [applyF, if_pos h, ← hq, List.drop_of_length_le hk, appL]
  have : (s.extract a s.size).data.toList = bs (s.extract a s.size) := rfl
  rw [this, bs_extract]
  unfold tx
  congr 3
  unfold seg
  rw [List.take_of_length_le (by simp [bs_len])]
theorem appR_at {s : ByteArray} {L : List Ed} {k : Nat} (h : Ap 0 (s.size : Int) L) (hk : k < L.length) : 0 ≤ (nth L (k : Int)).1 ∧ (nth L (k : Int)).1 ≤ (nth L (k : Int)).2.1 ∧ (nth L (k : Int)).2.1 ≤ ((appR (bs s) (L.drop (k + 1))).length : Int) := by
  have h1 : Ap 0 (s.size : Int) (L.drop k) := ⟨h.1, fun e he => h.2.1 e (List.mem_of_mem_drop he), h.2.2.sublist (List.drop_sublist _ _)⟩
  obtain ⟨k1, k2, k3, k4⟩ := ap_at h1 hk
  have h2 := appR_eq (s := bs s) (L := L.drop (k + 1)) (a := (nth L (k : Int)).2.1.toNat) (by rw [bs_len, Int.toNat_of_nonneg (by omega)]; exact k4)
  refine ⟨by omega, k2, ?_⟩
  rw [h2, List.length_append, List.length_take, bs_len]
  omega
theorem appR_next {s t : ByteArray} {L : List Ed} {k : Nat} (hk : k < L.length) (ht : bs t = appR (bs s) (L.drop (k + 1))) :
    bs (t.extract 0 (nth L (k : Int)).1.toNat ++ (nth L (k : Int)).2.2 ++ t.extract (nth L (k : Int)).2.1.toNat t.size) = appR (bs s) (L.drop k) := by
  rw [drop_cons hk]
  show _ = (appR (bs s) (L.drop (k + 1))).take _ ++ (bs _ ++ (appR (bs s) (L.drop (k + 1))).drop _)
  rw [← ht, bs_append, bs_append, bs_extract, bs_extract]
  unfold seg
  simp only [List.drop_zero, Nat.sub_zero, List.append_assoc]
  rw [List.take_of_length_le (l := (bs t).drop _) (by simp [bs_len])]
theorem appR_done {s t : ByteArray} {es : List Ed} (h : mayEd (s.size : Int) es = 0) (ht : bs t = appR (bs s) (isort ltE es)) : applyF s es = t := by
  rw [applyF, if_pos h]
  have h1 := appR_eq (s := bs s) (L := isort ltE es) (a := 0) (by rw [bs_len]; exact may_ap h (by omega))
  rw [← tx_bs t, ht, h1]
  rfl
theorem appR_small {s : ByteArray} {es : List Ed} {k : Nat} (h : Ap 0 (s.size : Int) (isort ltE es)) (hs : s.size ≤ 1000000) (hz : sizes es ≤ 1000000) : (appR (bs s) ((isort ltE es).drop k)).length ≤ 2000000 := by
  have h1 : Ap 0 (s.size : Int) ((isort ltE es).drop k) := ⟨h.1, fun e he => h.2.1 e (List.mem_of_mem_drop he), h.2.2.sublist (List.drop_sublist _ _)⟩
  have h2 := appR_eq (s := bs s) (a := 0) (by rw [bs_len]; exact h1)
  have h4 : isort ltE ((isort ltE es).drop k) = (isort ltE es).drop k := isort_ap h1 (List.Perm.refl _)
  have h5 : sizes ((isort ltE es).drop k) ≤ sizes es := by
    rw [← sizes_perm (isort_perm (lt := ltE) es)]
    have := sizes_append ((isort ltE es).take k) ((isort ltE es).drop k)
    rw [List.take_append_drop] at this
    have := sizes_nonneg ((isort ltE es).take k)
    omega
  have h3 := app_small (s := s) (es := (isort ltE es).drop k) (by rw [h4]; exact h1) hs (by omega)
  rw [h4] at h3
  rw [h2]
  simpa using h3
/-! ### Back -/
def backF (s : ByteArray) (es : List Ed) : List Ed := if mayEd (s.size : Int) es = 0 then backL s (isort ltE es) else []
theorem backS_snoc (s : ByteArray) (L : List Ed) (e : Ed) : backS s (L ++ [e]) = backStep s (backS s L) e := by simp [backS]
theorem backS_succ {s : ByteArray} {L : List Ed} {k : Nat} (h : k < L.length) : backS s (L.take (k + 1)) = backStep s (backS s (L.take k)) (nth L (k : Int)) := by
  rw [take_snoc h, backS_snoc]
theorem backS_grown (s : ByteArray) (L : List Ed) : (backS s L).2.1 = grown 0 L := by
  induction L using snoc_ind with
  | h0 => rfl
  | h1 L e ih => rw [backS_snoc, grown_append, ← ih]; simp [backStep, grown]
theorem grown_bounds {n : Int} : ∀ {L : List Ed} {a : Int}, Ap a n L → a - n ≤ grown 0 L ∧ grown 0 L ≤ sizes L := by
  intro L
  induction L with
  | nil => intro a h; have := h.le; simp [grown, sizes]; omega
  | cons e L ih =>
    intro a h
    obtain ⟨h1, h2, h3, h4⟩ := ap_cons.1 h
    have := ih h4
    rw [grown_cons, grown_zero, sizes_cons]; omega
theorem ap_take {a n : Int} {L : List Ed} {k : Nat} (h : Ap a n L) : Ap a n (L.take k) := ⟨h.1, fun e he => h.2.1 e (List.mem_of_mem_take he), h.2.2.sublist (List.take_sublist _ _)⟩
theorem ap_drop {a n : Int} {L : List Ed} {k : Nat} (h : Ap a n L) : Ap a n (L.drop k) := ⟨h.1, fun e he => h.2.1 e (List.mem_of_mem_drop he), h.2.2.sublist (List.drop_sublist _ _)⟩
theorem back_grown {s : ByteArray} {es : List Ed} {k : Nat} (h : Ap 0 (s.size : Int) (isort ltE es)) (hs : s.size ≤ 1000000) (hz : sizes es ≤ 1000000) : -1000000 ≤ (backS s ((isort ltE es).take k)).2.1 ∧ (backS s ((isort ltE es).take k)).2.1 ≤ 1000000 := by
  rw [backS_grown]
  have h1 := grown_bounds (ap_take (k := k) h)
  have h2 := sizes_append ((isort ltE es).take k) ((isort ltE es).drop k)
  rw [List.take_append_drop, sizes_perm (isort_perm es)] at h2
  have := sizes_nonneg ((isort ltE es).drop k)
  omega
theorem pc_mem : ∀ {ps : List Pc} {t : List UInt8} {a : Nat} {e : Ed}, e ∈ edOf a ps → (a : Int) ≤ e.1 ∧ e.1 ≤ e.2.1 ∧ e.2.1 ≤ a + (sOf ps t).length ∧ e.2.2.size ≤ (sOf (ps.map swap) t).length := by
  intro ps
  induction ps with
  | nil => intro t a e h; simp [edOf] at h
  | cons p ps ih =>
    intro t a e h
    rw [edOf] at h
    simp only [sOf, List.map_cons, swap, List.length_append]
    rcases List.mem_cons.1 h with rfl | h
    · simp only [tx_size]; omega
    · have := ih (t := t) h; omega
theorem back_mem {s : ByteArray} {L : List Ed} (h : Ap 0 (s.size : Int) L) {e : Ed} (he : e ∈ (backS s L).1) : 0 ≤ e.1 ∧ e.1 ≤ e.2.1 ∧ e.2.1 ≤ (s.size : Int) + grown 0 L ∧ e.2.2.size ≤ s.size := by
  obtain ⟨ps, t, h1, h2⟩ := rep L (bs s) 0 (by rw [bs_len]; simpa using h)
  have h3 : (backS s L).1 = edOf 0 ((norm ps).map swap) := by rw [← h1]; exact backL_pc s ps t h2.symm
  rw [h3] at he
  have h4 := pc_mem (t := t) he
  have h5 : (sOf ((norm ps).map swap) t).length = (appL (bs s) 0 L).length := by
    rw [nrm_sOf', ← h1, appL_pc ps t (bs s) [] 0 rfl (by simpa using h2.symm)]
  have h6 := appL_len (s := bs s) (a := 0) (L := L) (by rw [bs_len]; exact h)
  rw [swap_swap, norm_sOf, h2, bs_len] at h4
  rw [bs_len] at h6
  omega
theorem back_at {s : ByteArray} {es : List Ed} {k : Nat} {i : Int} (h : Ap 0 (s.size : Int) (isort ltE es)) (hs : s.size ≤ 1000000) (hz : sizes es ≤ 1000000) (h0 : 0 ≤ i) (h1 : i < (backS s ((isort ltE es).take k)).1.length) :
    0 ≤ (nth (backS s ((isort ltE es).take k)).1 i).2.1 ∧ (nth (backS s ((isort ltE es).take k)).1 i).2.1 ≤ 2000000 ∧ (nth (backS s ((isort ltE es).take k)).1 i).2.2.size ≤ 1000000 := by
  have h2 := back_mem (ap_take (k := k) h) (nth_memI h0 h1)
  have h3 := back_grown (k := k) h hs hz
  rw [backS_grown] at h3
  omega
theorem backS_len (s : ByteArray) (L : List Ed) : (backS s L).1.length ≤ L.length := by
  induction L using snoc_ind with
  | h0 => simp [backS]
  | h1 L e ih =>
    rw [backS_snoc, backStep]
    split <;> simp <;> omega
theorem backS_take {s : ByteArray} {L : List Ed} {k : Nat} : (backS s (L.take k)).1.length ≤ k := by
  have := backS_len s (L.take k)
  have := List.length_take_le k L
  omega
theorem back_hit {s : ByteArray} {L : List Ed} {k : Nat} (h : k < L.length) (hc : (decide (0 ≤ ((backS s (L.take k)).1.length : Int) - 1) && decide ((nth L (k : Int)).1 = (backS s (L.take k)).2.2)) = true) :
    (backS s (L.take (k + 1))).1 = (backS s (L.take k)).1.set (((backS s (L.take k)).1.length : Int) - 1).toNat ((nth (backS s (L.take k)).1 (((backS s (L.take k)).1.length : Int) - 1)).1, (nth (backS s (L.take k)).1 (((backS s (L.take k)).1.length : Int) - 1)).2.1 + ((nth L (k : Int)).2.2.size : Int), (nth (backS s (L.take k)).1 (((backS s (L.take k)).1.length : Int) - 1)).2.2 ++ s.extract (nth L (k : Int)).1.toNat (nth L (k : Int)).2.1.toNat) := by
  rw [backS_succ h, backStep, if_pos hc]
theorem back_miss {s : ByteArray} {L : List Ed} {k : Nat} (h : k < L.length) (hc : (decide (0 ≤ ((backS s (L.take k)).1.length : Int) - 1) && decide ((nth L (k : Int)).1 = (backS s (L.take k)).2.2)) = false) :
    (backS s (L.take (k + 1))).1 = (backS s (L.take k)).1 ++ [((nth L (k : Int)).1 + (backS s (L.take k)).2.1, (nth L (k : Int)).1 + (backS s (L.take k)).2.1 + ((nth L (k : Int)).2.2.size : Int), s.extract (nth L (k : Int)).1.toNat (nth L (k : Int)).2.1.toNat)] := by
  rw [backS_succ h, backStep, if_neg (by rw [hc]; decide)]
theorem back_by {s : ByteArray} {L : List Ed} {k : Nat} (h : k < L.length) : (backS s (L.take (k + 1))).2.1 = (backS s (L.take k)).2.1 + (((nth L (k : Int)).2.2.size : Int) - ((nth L (k : Int)).2.1 - (nth L (k : Int)).1)) := by
  rw [backS_succ h]; rfl
theorem back_last {s : ByteArray} {L : List Ed} {k : Nat} (h : k < L.length) : (backS s (L.take (k + 1))).2.2 = (nth L (k : Int)).2.1 := by
  rw [backS_succ h]; rfl
/-- the last one's end lies where the text behind it goes on -/
theorem back_to (s : ByteArray) (L : List Ed) (h : (backS s L).1 ≠ []) : (nth (backS s L).1 (((backS s L).1.length : Int) - 1)).2.1 = (backS s L).2.2 + (backS s L).2.1 := by
  induction L using snoc_ind with
  | h0 => exact absurd rfl h
  | h1 L e ih =>
    rw [backS_snoc] at h ⊢
    have e2 : (backStep s (backS s L) e).2.2 = e.2.1 := rfl
    have e3 : (backStep s (backS s L) e).2.1 = (backS s L).2.1 + ((e.2.2.size : Int) - (e.2.1 - e.1)) := rfl
    rw [e2, e3]
    by_cases hc : (decide (0 ≤ ((backS s L).1.length : Int) - 1) && decide (e.1 = (backS s L).2.2)) = true
    · have hl : (0 : Int) ≤ ((backS s L).1.length : Int) - 1 ∧ e.1 = (backS s L).2.2 := by simpa using hc
      have hne : (backS s L).1 ≠ [] := fun e' => by rw [e'] at hl; simp at hl
      have hi := ih hne
      obtain ⟨A, l, hA⟩ : ∃ A l, (backS s L).1 = A ++ [l] := ⟨_, _, (List.dropLast_concat_getLast hne).symm⟩
      have e1 : (backStep s (backS s L) e).1 = A ++ [(l.1, l.2.1 + (e.2.2.size : Int), l.2.2 ++ s.extract e.1.toNat e.2.1.toNat)] := by
        unfold backStep
        rw [if_pos hc]
        simp only [hA, nth_endE, set_endE]
      rw [hA, nth_endE] at hi
      rw [e1, nth_endE]
      simp only []
      omega
    · have e1 : (backStep s (backS s L) e).1 = (backS s L).1 ++ [(e.1 + (backS s L).2.1, e.1 + (backS s L).2.1 + (e.2.2.size : Int), s.extract e.1.toNat e.2.1.toNat)] := by
        unfold backStep
        rw [if_neg hc]
      rw [e1, nth_endE]
      simp only []
      omega
theorem back_cond {s : ByteArray} {L : List Ed} {k : Nat} {b : Bool} (h : (decide ((0 : Int) < ((backS s (L.take k)).1.length : Int)) && decide ((backS s (L.take k)).2.2 = (nth L (k : Int)).1)) = b) : (decide (0 ≤ ((backS s (L.take k)).1.length : Int) - 1) && decide ((nth L (k : Int)).1 = (backS s (L.take k)).2.2)) = b := by
  rw [← h]
  congr 1
  · exact decide_eq_decide.2 (by omega)
  · exact decide_eq_decide.2 ⟨fun e => e.symm, fun e => e.symm⟩
theorem nth_set_same {α : Type} [Inhabited α] {xs : List α} {i : Int} {x : α} (h0 : 0 ≤ i) (h1 : i < xs.length) : nth (xs.set i.toNat x) i = x := by
  unfold nth
  rw [List.getD_eq_getElem?_getD, List.getElem?_set_self (by omega)]
  rfl
/-! ### What the statements tell -/
def muchL : Int → List Ed → Bool
  | _, [] => false
  | n, e :: es => decide (n < (e.2.2.size : Int)) || muchL (n - (e.2.2.size : Int)) es
theorem muchL_sizes : ∀ {es : List Ed} {n : Int}, muchL n es = false → 0 ≤ n → sizes es ≤ n := by
  intro es
  induction es with
  | nil => intro n _ h; simpa [sizes] using h
  | cons e es ih =>
    intro n h h0
    rw [muchL, Bool.or_eq_false_iff, decide_eq_false_iff_not] at h
    have := ih h.2 (by omega)
    rw [sizes_cons]; omega
theorem muchL_hit {es : List Ed} {n m : Int} {k : Nat} (h : k < es.length) (hq : muchL n es = muchL m (es.drop k)) (hc : m < ((nth es (k : Int)).2.2.size : Int)) : muchL n es = true := by
  rw [hq, drop_cons h, muchL, decide_eq_true hc]; rfl
theorem muchL_next {es : List Ed} {n m : Int} {k : Nat} (h : k < es.length) (hq : muchL n es = muchL m (es.drop k)) (hc : ((nth es (k : Int)).2.2.size : Int) ≤ m) : muchL n es = muchL (m - ((nth es (k : Int)).2.2.size : Int)) (es.drop (k + 1)) := by
  rw [hq, drop_cons h, muchL, decide_eq_false (by omega)]; rfl
theorem muchL_end {es : List Ed} {n m : Int} {k : Nat} (h : es.length ≤ k) (hq : muchL n es = muchL m (es.drop k)) : muchL n es = false := by
  rw [hq, List.drop_of_length_le h]; rfl
def muchF (m n : Int) (es : List Ed) : Bool := decide (m < (es.length : Int)) || muchL n es
def rotE (xs : List Ed) (b : Int) : List Ed := ([] ++ (xs.drop (lowF b ((xs.length : Int) + 1)).toNat).take (xs.length - (lowF b ((xs.length : Int) + 1)).toNat)) ++ (xs.drop 0).take ((lowF b ((xs.length : Int) + 1)).toNat - 0)
theorem rotE_perm (xs : List Ed) (b : Int) : (rotE xs b).Perm xs := by
  unfold rotE
  rw [List.nil_append, List.take_of_length_le (l := xs.drop _) (by simp)]
  simp only [List.drop_zero, Nat.sub_zero]
  have := List.perm_append_comm (l₁ := xs.drop (lowF b ((xs.length : Int) + 1)).toNat) (l₂ := xs.take (lowF b ((xs.length : Int) + 1)).toNat)
  rwa [List.take_append_drop] at this
theorem rotE_len (xs : List Ed) (b : Int) : (rotE xs b).length = xs.length := (rotE_perm xs b).length_eq
/-- what a hint tells, behind those ahead -/
def apStep (n : Int) (st : List Ed × Int × Int) (p : Ed) : List Ed × Int × Int :=
  if ((decide (n < st.2.1 + lowF p.1 5 + lowF p.2.1 5) || decide (st.2.2 < (p.2.2.size : Int))) || (decide ((0 : Int) < (st.1.length : Int)) && decide (st.2.1 + lowF p.1 5 = (nth st.1 ((st.1.length : Int) - 1)).1))) = true then st
  else (st.1 ++ [(st.2.1 + lowF p.1 5, st.2.1 + lowF p.1 5 + lowF p.2.1 5, p.2.2)], st.2.1 + lowF p.1 5 + lowF p.2.1 5, st.2.2 - (p.2.2.size : Int))
def apS (n : Int) (ps : List Ed) : List Ed × Int × Int := ps.foldl (apStep n) ([], 0, 200)
def apF (n : Int) (ps : List Ed) : List Ed := (apS n (ps.take 20)).1
theorem apS_succ {n : Int} {ps : List Ed} {k : Nat} (h : k < ps.length) : apS n (ps.take (k + 1)) = apStep n (apS n (ps.take k)) (nth ps (k : Int)) := by
  rw [take_snoc h]; simp [apS]
structure ApSt (n : Int) (k : Nat) (st : List Ed × Int × Int) : Prop where
  ap : Ap 0 st.2.1 st.1
  le : st.2.1 ≤ n
  left : st.2.2 = 200 - sizes st.1
  pos : 0 ≤ st.2.2
  len : st.1.length ≤ k
  ends : ∀ A l, st.1 = A ++ [l] → st.2.1 = l.2.1
theorem nth_end_of {st : List Ed} {A : List Ed} {l : Ed} (h : st = A ++ [l]) : nth st ((st.length : Int) - 1) = l := by rw [h]; exact nth_endE A l
theorem apS_inv {n : Int} (hn : 0 ≤ n) (ps : List Ed) : ApSt n ps.length (apS n ps) := by
  induction ps using snoc_ind with
  | h0 => exact ⟨by simp [apS, Ap], hn, by simp [apS, sizes], by simp [apS], by simp [apS], fun A l h => by simp [apS] at h⟩
  | h1 ps p ih =>
    have e : apS n (ps ++ [p]) = apStep n (apS n ps) p := by simp [apS]
    rw [e]
    obtain ⟨i1, i2, i3, i4, i5, i6⟩ := ih
    generalize apS n ps = st at *
    unfold apStep
    have l1 := low_range p.1 5 (by omega) (by omega)
    have l2 := low_range p.2.1 5 (by omega) (by omega)
    split
    · exact ⟨i1, i2, i3, i4, by simp; omega, i6⟩
    · rename_i hc
      simp only [Bool.or_eq_true, Bool.and_eq_true, decide_eq_true_eq, not_or, Int.not_lt, not_and] at hc
      obtain ⟨⟨c1, c2⟩, c3⟩ := hc
      refine ⟨?_, c1, ?_, by simp only []; omega, by simp; omega, fun A l h => ?_⟩
      · refine ap_append.2 ⟨i1.mono (Int.le_refl _) (show st.2.1 ≤ st.2.1 + lowF p.1 5 + lowF p.2.1 5 by omega), ?_, ?_⟩
        · rw [ap_cons]
          have := i1.le
          exact ⟨by simp only []; omega, by simp only []; omega, by simp, by rw [ap_nil]; exact Int.le_refl _⟩
        · intro q hq r hr
          simp only [List.mem_singleton] at hr
          subst hr
          simp only []
          have hb := i1.2.1 q hq
          refine ⟨?_, by omega⟩
          have hne : st.1 ≠ [] := List.ne_nil_of_mem hq
          obtain ⟨A, l, hA⟩ : ∃ A l, st.1 = A ++ [l] := ⟨_, _, (List.dropLast_concat_getLast hne).symm⟩
          have hl := c3 (by have := List.length_pos_iff.2 hne; omega)
          rw [nth_end_of hA] at hl
          rw [hA] at hq i1
          have hat := i6 A l hA
          rcases List.mem_append.1 hq with hq | hq
          · have := (ap_append.1 i1).2.2 q hq l (by simp)
            have := i1.2.1 l (by simp)
            omega
          · simp only [List.mem_singleton] at hq
            subst hq
            omega
      · simp only []
        rw [sizes_append, i3]
        simp [sizes]; omega
      · simp only [] at h ⊢
        have := List.append_inj_right' h rfl
        simp only [List.cons.injEq, and_true] at this
        rw [← this]
theorem apF_ap {n : Int} (hn : 0 ≤ n) (ps : List Ed) : Ap 0 n (apF n ps) ∧ sizes (apF n ps) ≤ 200 ∧ (apF n ps).length ≤ 20 := by
  have h := apS_inv hn (ps.take 20)
  refine ⟨h.ap.mono (Int.le_refl _) h.le, ?_, ?_⟩
  · have := h.left; have := h.pos
    show sizes (apS n (ps.take 20)).1 ≤ 200
    omega
  · have := h.len
    show (apS n (ps.take 20)).1.length ≤ 20
    have := List.length_take_le 20 ps
    omega
theorem apS_at {n : Int} (hn : 0 ≤ n) {ps : List Ed} {k : Nat} (hk : k ≤ 20) : (0 ≤ (apS n (ps.take k)).2.1 ∧ (apS n (ps.take k)).2.1 ≤ n) ∧ (0 ≤ (apS n (ps.take k)).2.2 ∧ (apS n (ps.take k)).2.2 ≤ 200) ∧ (apS n (ps.take k)).1.length ≤ 20 := by
  have h := apS_inv hn (ps.take k)
  have h1 := h.left; have h2 := h.pos; have h3 := sizes_nonneg (apS n (ps.take k)).1; have h4 := h.len; have h5 := List.length_take_le k ps
  exact ⟨⟨h.ap.le, h.le⟩, ⟨h2, by omega⟩, by omega⟩
theorem apS_skip {n : Int} {ps : List Ed} {k : Nat} (h : k < ps.length) (hc : ((decide (n < (apS n (ps.take k)).2.1 + lowF (nth ps (k : Int)).1 5 + lowF (nth ps (k : Int)).2.1 5) || decide ((apS n (ps.take k)).2.2 < ((nth ps (k : Int)).2.2.size : Int))) || (decide ((0 : Int) < ((apS n (ps.take k)).1.length : Int)) && decide ((apS n (ps.take k)).2.1 + lowF (nth ps (k : Int)).1 5 = (nth (apS n (ps.take k)).1 (((apS n (ps.take k)).1.length : Int) - 1)).1))) = true) :
    apS n (ps.take (k + 1)) = apS n (ps.take k) := by
  rw [apS_succ h, apStep, if_pos hc]
theorem apS_put {n : Int} {ps : List Ed} {k : Nat} (h : k < ps.length) (hc : ((decide (n < (apS n (ps.take k)).2.1 + lowF (nth ps (k : Int)).1 5 + lowF (nth ps (k : Int)).2.1 5) || decide ((apS n (ps.take k)).2.2 < ((nth ps (k : Int)).2.2.size : Int))) || (decide ((0 : Int) < ((apS n (ps.take k)).1.length : Int)) && decide ((apS n (ps.take k)).2.1 + lowF (nth ps (k : Int)).1 5 = (nth (apS n (ps.take k)).1 (((apS n (ps.take k)).1.length : Int) - 1)).1))) = false) :
    apS n (ps.take (k + 1)) = ((apS n (ps.take k)).1 ++ [((apS n (ps.take k)).2.1 + lowF (nth ps (k : Int)).1 5, (apS n (ps.take k)).2.1 + lowF (nth ps (k : Int)).1 5 + lowF (nth ps (k : Int)).2.1 5, (nth ps (k : Int)).2.2)], (apS n (ps.take k)).2.1 + lowF (nth ps (k : Int)).1 5 + lowF (nth ps (k : Int)).2.1 5, (apS n (ps.take k)).2.2 - ((nth ps (k : Int)).2.2.size : Int)) := by
  rw [apS_succ h, apStep, if_neg (by rw [hc]; decide)]
theorem apF_end {n : Int} {ps : List Ed} {k : Nat} (hk : k ≤ 20) (h : ps.length ≤ k ∨ 20 ≤ k) : apF n ps = (apS n (ps.take k)).1 := by
  unfold apF
  rcases h with h | h
  · rw [List.take_of_length_le (show ps.length ≤ 20 by omega), List.take_of_length_le h]
  · rw [show k = 20 by omega]
/-! ### Offsets -/
theorem one_range {a : Int} {r : Bool} {e : Ed} {M : Int} (h1 : 0 ≤ e.1) (h2 : e.1 ≤ e.2.1) (h3 : e.2.1 ≤ M) (h4 : -M ≤ a) (h5 : a ≤ M) : -M ≤ one a r e ∧ one a r e ≤ M + (e.2.2.size : Int) := by
  unfold one
  cases r <;> simp only [Bool.false_eq_true, if_false, if_true] <;> (repeat' split) <;> omega
theorem oneW_eq {a : Int} {r : Bool} {e : Ed} (h1 : 0 ≤ e.1) (h2 : e.1 ≤ e.2.1) (h3 : e.2.1 ≤ 4000000000000000) (h4 : -4000000000000000 ≤ a) (h5 : a ≤ 4000000000000000) (h6 : e.2.2.size ≤ 1000000) : oneW a r e = one a r e := by
  unfold oneW one
  simp only [lenW, w_eq]
  cases r <;> simp only [Bool.false_eq_true, if_false, if_true] <;> (repeat' split) <;> omega
theorem foldM_rev {n : Int} {r : Bool} : ∀ {L : List Ed} {M : Int}, (∀ e ∈ L, 0 ≤ e.1 ∧ e.1 ≤ e.2.1 ∧ e.2.1 ≤ M) → -M ≤ n → n ≤ M → M + sizes L ≤ 2000000000000000 → sizes L ≤ 1000000 →
    foldM n r L.reverse = mvL r n L ∧ -M ≤ mvL r n L ∧ mvL r n L ≤ M + sizes L := by
  intro L
  induction L with
  | nil => intro M _ h1 h2 _ _; exact ⟨rfl, h1, by simp [sizes, mvL]; omega⟩
  | cons e L ih =>
    intro M h h1 h2 h3 h4
    rw [sizes_cons] at h3 h4
    have hz := sizes_nonneg L
    obtain ⟨i1, i2, i3⟩ := ih (M := M) (fun f hf => h f (by simp [hf])) h1 h2 (by omega) (by omega)
    obtain ⟨e1, e2, e3⟩ := h e (by simp)
    have e4 : foldM n r (e :: L).reverse = oneW (foldM n r L.reverse) r e := by simp [foldM]
    have hr := one_range (a := mvL r n L) (r := r) (e := e) (M := M + sizes L) e1 e2 (by omega) (by omega) (by omega)
    rw [e4, i1, oneW_eq e1 e2 (by omega) (by omega) (by omega) (by omega), mvL_cons, sizes_cons]
    refine ⟨rfl, ?_, by omega⟩
    have : -M ≤ one (mvL r n L) r e := by
      unfold one
      cases r <;> simp only [Bool.false_eq_true, if_false, if_true] <;> (repeat' split) <;> omega
    exact this
theorem moveW_eq {n m : Int} {r : Bool} {L es : List Ed} (h : Ap 0 m L) (hp : es.Perm L) (hm : m ≤ 1000000) (h1 : -2000000000000 ≤ n) (h2 : n ≤ 2000000000000) (hz : sizes es ≤ 1000000) : moveW n r es = mvL r n L ∧ -2000000000000 ≤ mvL r n L ∧ mvL r n L ≤ 2000000000000 + sizes L := by
  unfold moveW
  rw [isort_ap h hp]
  have hz' : sizes L ≤ 1000000 := by rw [← sizes_perm hp]; exact hz
  exact foldM_rev (M := 2000000000000) (fun e he => by have := h.2.1 e he; omega) (by omega) (by omega) (by omega) hz'
end B
end Go.Proofs.Ytfkjmkngiiokmaa
