/-
  Plain lists: what slices' merging in place and its stable sort come to. No program.
-/
import Derived.Test.YtocmchlhbniloaaSort2
set_option linter.unusedSimpArgs false
set_option linter.unusedSectionVars false
set_option linter.unusedVariables false
namespace Go.Proofs.Ytocmchlhbniloaa
namespace Srt
open B
variable {α : Type} [Inhabited α]

/-- the element at a moves up -/
def bup (xs : List α) (a : Nat) : Nat → List α
  | 0 => xs
  | n + 1 => swp (bup xs a n) ((a : Int) + n) ((a : Int) + n + 1)
theorem bup_len (xs : List α) (a n : Nat) : (bup xs a n).length = xs.length := by
  induction n with
  | zero => rfl
  | succ n ih => rw [bup, swp_len, ih]
theorem bup_spec {A D : List α} {x : α} {a : Nat} (hA : A.length = a) : ∀ (n : Nat) (Q : List α), Q.length = n → bup (A ++ x :: (Q ++ D)) a n = A ++ (Q ++ x :: D) := by
  intro n
  induction n generalizing D with
  | zero => intro Q hQ; obtain rfl := List.eq_nil_of_length_eq_zero hQ; rfl
  | succ n ih =>
    intro Q hQ
    obtain ⟨Q', y, rfl⟩ : ∃ P' y, Q = P' ++ [y] := ⟨Q.dropLast, Q.getLast (by intro e; simp [e] at hQ), (List.dropLast_concat_getLast _).symm⟩
    simp at hQ
    rw [bup, show A ++ x :: (Q' ++ [y] ++ D) = A ++ x :: (Q' ++ (y :: D)) by simp, ih Q' hQ]
    have := swp_lt (A := A ++ Q') (M := []) (C := D) (x := x) (y := y) (i := (a : Int) + n) (j := (a : Int) + n + 1) (by simp; omega) (by simp; omega)
    simpa using this
theorem bup_rot {xs : List α} {a n : Nat} (h : a + 1 + n ≤ xs.length) : bup xs a n = rotF xs a (a + 1) (a + 1 + n) := by
  have e : xs = xs.take a ++ nth xs (a : Int) :: (seg xs (a + 1) (a + 1 + n) ++ xs.drop (a + 1 + n)) := by
    rw [← seg_drop (by omega), ← drop_cons (by omega), List.take_append_drop]
  have s1 : seg xs a (a + 1) = [nth xs (a : Int)] := by rw [seg_snoc (Nat.le_refl _) (by omega), seg_self]; rfl
  conv => lhs; rw [e]
  rw [bup_spec (by simp; omega) n _ (by rw [seg_len h]; omega), rotF, s1]
  simp
/-- the element at m moves down -/
def bdn (xs : List α) (m : Nat) : Nat → List α
  | 0 => xs
  | n + 1 => swp (bdn xs m n) ((m : Int) - n) ((m : Int) - n - 1)
theorem bdn_len (xs : List α) (a n : Nat) : (bdn xs a n).length = xs.length := by
  induction n with
  | zero => rfl
  | succ n ih => rw [bdn, swp_len, ih]
theorem bdn_spec {D : List α} {x : α} {m : Nat} : ∀ (n : Nat) (A Q : List α), Q.length = n → A.length + Q.length = m → bdn (A ++ (Q ++ x :: D)) m n = A ++ x :: (Q ++ D) := by
  intro n
  induction n with
  | zero => intro A Q hQ _; obtain rfl := List.eq_nil_of_length_eq_zero hQ; rfl
  | succ n ih =>
    intro A Q hQ hm
    obtain ⟨y, Q', rfl⟩ : ∃ y Q', Q = y :: Q' := by cases Q with | nil => simp at hQ | cons y Q' => exact ⟨y, Q', rfl⟩
    simp at hQ hm
    have h1 := ih (A ++ [y]) Q' hQ (by simp; omega)
    rw [bdn, show A ++ (y :: Q' ++ x :: D) = A ++ [y] ++ (Q' ++ x :: D) by simp, h1]
    have := swp_gt (A := A) (M := []) (C := Q' ++ D) (x := y) (y := x) (i := (m : Int) - n - 1) (j := (m : Int) - n) (by omega) (by simp; omega)
    simpa using this
theorem bdn_rot {xs : List α} {m n : Nat} (h : m < xs.length) (hn : n ≤ m) : bdn xs m n = rotF xs (m - n) m (m + 1) := by
  have e : xs = xs.take (m - n) ++ (seg xs (m - n) m ++ nth xs (m : Int) :: xs.drop (m + 1)) := by
    rw [← drop_cons h, ← seg_drop (by omega), List.take_append_drop]
  have s1 : seg xs m (m + 1) = [nth xs (m : Int)] := by rw [seg_snoc (Nat.le_refl _) h, seg_self]; rfl
  have l1 : (seg xs (m - n) m).length = n := by rw [seg_len (by omega)]; omega
  conv => lhs; rw [e]
  rw [bdn_spec n _ _ l1 (by rw [l1]; simp; omega), rotF, s1]
  simp

theorem nth_of {xs : List α} {k : Nat} {x : α} (h : xs[k]? = some x) : nth xs (k : Int) = x := by
  simp [nth, List.getD, h]
theorem nth_lt {xs : List α} {k : Nat} (h : k < xs.length) : xs[k]? = some (nth xs (k : Int)) := by
  simp [nth, List.getD, List.getElem?_eq_getElem h]

section order
variable {lt : α → α → Bool}
theorem Swo.irr (hw : Swo lt) (x : α) : lt x x = false := by
  cases h : lt x x with
  | false => rfl
  | true => have := hw.asym x x h; rw [h] at this; cases this
theorem sorted_at (hw : Swo lt) {xs : List α} {i j p q : Nat} (hs : Sorted lt (seg xs i j)) (h1 : i ≤ p) (h2 : p ≤ q) (h3 : q < j) (h4 : j ≤ xs.length) : lt (nth xs (q : Int)) (nth xs (p : Int)) = false := by
  by_cases e : p = q
  · subst e; exact hw.irr _
  · have h := List.pairwise_iff_getElem.1 hs (p - i) (q - i) (by rw [seg_len h4]; omega) (by rw [seg_len h4]; omega) (by omega)
    have a1 : (seg xs i j)[p - i]? = some (nth xs (p : Int)) := by rw [seg_get (by omega), show i + (p - i) = p by omega, nth_lt (by omega)]
    have a2 : (seg xs i j)[q - i]? = some (nth xs (q : Int)) := by rw [seg_get (by omega), show i + (q - i) = q by omega, nth_lt (by omega)]
    rw [List.getElem?_eq_getElem (by rw [seg_len h4]; omega)] at a1 a2
    simp only [Option.some.injEq] at a1 a2
    rw [a1, a2] at h
    exact h
theorem Swo.pos (hw : Swo lt) {x y z : α} (h : lt x z = true) (h1 : lt x y = false) : lt y z = true := by
  cases h2 : lt y z with
  | true => rfl
  | false => have := hw.neg x y z h1 h2; rw [h] at this; cases this
theorem Swo.pos' (hw : Swo lt) {x y z : α} (h : lt x z = true) (h1 : lt y z = false) : lt x y = true := by
  cases h2 : lt x y with
  | true => rfl
  | false => have := hw.neg x y z h2 h1; rw [h] at this; cases this

theorem parts_of (hw : Swo lt) {xs : List α} {a s m e b : Nat} (hS1 : Sorted lt (seg xs a m)) (hS2 : Sorted lt (seg xs m b)) (h1 : a ≤ s) (h2 : s ≤ m) (h3 : m ≤ e) (h4 : e ≤ b) (h5 : b ≤ xs.length)
    (c1 : s = a ∨ e = b ∨ lt (nth xs (e : Int)) (nth xs ((s : Int) - 1)) = false) (c2 : s = m ∨ e = m ∨ lt (nth xs ((e : Int) - 1)) (nth xs (s : Int)) = true) :
    mF lt xs a m b = xs.take a ++ (mrg lt (seg xs a s) (seg xs m e) ++ (mrg lt (seg xs s m) (seg xs e b) ++ xs.drop b)) := by
  rw [mF, seg_append h1 h2, seg_append h3 h4, mrg_parts, List.append_assoc]
  · intro r hr l hl
    obtain ⟨p, p1, p2, hp⟩ := mem_seg hr
    obtain ⟨q, q1, q2, hq⟩ := mem_seg hl
    rw [← nth_of hp, ← nth_of hq]
    rcases c2 with c | c | c
    · omega
    · omega
    · rw [show (e : Int) - 1 = ((e - 1 : Nat) : Int) by omega] at c
      have d1 := sorted_at hw hS2 (p := p) (q := e - 1) (by omega) (by omega) (by omega) h5
      have d2 := sorted_at hw hS1 (p := s) (q := q) (by omega) (by omega) (by omega) (by omega)
      exact hw.pos (hw.pos' c d2) d1
  · intro l hl r hr
    obtain ⟨p, p1, p2, hp⟩ := mem_seg hr
    obtain ⟨q, q1, q2, hq⟩ := mem_seg hl
    rw [← nth_of hp, ← nth_of hq]
    rcases c1 with c | c | c
    · omega
    · omega
    · rw [show (s : Int) - 1 = ((s - 1 : Nat) : Int) by omega] at c
      have d1 := sorted_at hw hS2 (p := e) (q := p) (by omega) (by omega) (by omega) h5
      have d2 := sorted_at hw hS1 (p := q) (q := s - 1) (by omega) (by omega) (by omega) (by omega)
      exact hw.neg _ _ _ d1 (hw.neg _ _ _ c d2)

theorem sym_left (hw : Swo lt) {xs : List α} {a i b : Nat} (hS2 : Sorted lt (seg xs (a + 1) b)) (h1 : a + 1 ≤ i) (h2 : i ≤ b) (h3 : b ≤ xs.length)
    (c2 : i = a + 1 ∨ lt (nth xs ((i : Int) - 1)) (nth xs (a : Int)) = true) (c1 : i = b ∨ lt (nth xs (i : Int)) (nth xs (a : Int)) = false) :
    bup xs a (i - 1 - a) = mF lt xs a (a + 1) b := by
  have s1 : seg xs a (a + 1) = [nth xs (a : Int)] := by rw [seg_snoc (Nat.le_refl _) (by omega), seg_self]; rfl
  rw [bup_rot (by omega), show a + 1 + (i - 1 - a) = i by omega,
    parts_of hw (s := a) (e := i) (by rw [s1]; exact List.pairwise_singleton _ _) hS2 (Nat.le_refl _) (by omega) h1 h2 h3 (.inl rfl) (.inr c2)]
  rw [seg_self, mrg_nil_left, s1, mrg_one_left, rotF, s1]
  · rw [seg_drop (xs := xs) (i := i) (j := b) h2]; simp
  · intro r hr
    obtain ⟨p, p1, p2, hp⟩ := mem_seg hr
    rw [← nth_of hp]
    rcases c1 with c | c
    · omega
    · exact hw.neg _ _ _ (sorted_at hw hS2 (p := i) (q := p) (by omega) (by omega) (by omega) h3) c
theorem sym_right (hw : Swo lt) {xs : List α} {a i m : Nat} (hS1 : Sorted lt (seg xs a m)) (h1 : a ≤ i) (h2 : i ≤ m) (h3 : m < xs.length)
    (c1 : i = a ∨ lt (nth xs (m : Int)) (nth xs ((i : Int) - 1)) = false) (c2 : i = m ∨ lt (nth xs (m : Int)) (nth xs (i : Int)) = true) :
    bdn xs m (m - i) = mF lt xs a m (m + 1) := by
  have s1 : seg xs m (m + 1) = [nth xs (m : Int)] := by rw [seg_snoc (Nat.le_refl _) (by omega), seg_self]; rfl
  rw [bdn_rot h3 (by omega), show m - (m - i) = i by omega,
    parts_of hw (s := i) (e := m) hS1 (by rw [s1]; exact List.pairwise_singleton _ _) h1 h2 (Nat.le_refl _) (by omega) h3 (by rcases c1 with c | c; exact .inl c; exact .inr (.inr c)) (.inr (.inl rfl))]
  rw [seg_self, mrg_nil_right, s1, mrg_one_right, rotF, s1]
  · rw [take_seg (xs := xs) (i := a) (j := i) h1]; simp
  · intro l hl
    obtain ⟨p, p1, p2, hp⟩ := mem_seg hl
    rw [← nth_of hp]
    rcases c2 with c | c
    · omega
    · exact hw.pos' c (sorted_at hw hS1 (p := i) (q := p) (by omega) (by omega) (by omega) (by omega))
theorem mF_put {A L R D : List α} {a m b : Nat} (hA : A.length = a) (hL : a + L.length = m) (hR : m + R.length = b) : mF lt (A ++ (L ++ (R ++ D))) a m b = A ++ (mrg lt L R ++ D) := by
  have e1 : seg (A ++ (L ++ (R ++ D))) a m = L := by
    have := seg_put (A := A) (B := L) (C := R ++ D) hA hL; simpa using this
  have e2 : seg (A ++ (L ++ (R ++ D))) m b = R := by
    have := seg_put (A := A ++ L) (B := R) (C := D) (i := m) (j := b) (by simp; omega) hR; simpa using this
  have e3 : (A ++ (L ++ (R ++ D))).drop b = D := by
    have : A ++ (L ++ (R ++ D)) = (A ++ L ++ R) ++ D := by simp
    rw [this, List.drop_left' (by simp; omega)]
  have e4 : (A ++ (L ++ (R ++ D))).take a = A := List.take_left' hA
  rw [mF, e1, e2, e3, e4]
section sym
variable {xs ys zs us : List α} {a s m e b mid : Nat}
theorem rot_form (h1 : a ≤ s) (h2 : s ≤ m) (h3 : m ≤ e) (h4 : e ≤ b) (hy : ys = rotF xs s m e) : ys = xs.take a ++ (seg xs a s ++ (seg xs m e ++ (seg xs s m ++ (seg xs e b ++ xs.drop b)))) := by
  rw [hy, rotF, take_seg h1, seg_drop h4]; simp
theorem sym_final (hw : Swo lt) (hS1 : Sorted lt (seg xs a m)) (hS2 : Sorted lt (seg xs m b)) (h1 : a ≤ s) (h2 : s ≤ m) (h3 : m ≤ e) (h4 : e ≤ b) (h5 : b ≤ xs.length)
    (c1 : s = a ∨ e = b ∨ lt (nth xs (e : Int)) (nth xs ((s : Int) - 1)) = false) (c2 : s = m ∨ e = m ∨ lt (nth xs ((e : Int) - 1)) (nth xs (s : Int)) = true)
    (hm : s + e = mid + m) (hy : ys = rotF xs s m e) (hz : zs = mF lt ys a s mid) (hu : us = mF lt zs mid e b) : us = mF lt xs a m b := by
  have k1 := seg_len (xs := xs) (i := a) (j := s) (by omega)
  have k2 := seg_len (xs := xs) (i := m) (j := e) (by omega)
  have k3 := seg_len (xs := xs) (i := s) (j := m) (by omega)
  have k4 := seg_len (xs := xs) (i := e) (j := b) (by omega)
  rw [rot_form h1 h2 h3 h4 hy, mF_put (by simp; omega) (by omega) (by omega)] at hz
  have hz' : zs = (xs.take a ++ mrg lt (seg xs a s) (seg xs m e)) ++ (seg xs s m ++ (seg xs e b ++ xs.drop b)) := by rw [hz]; simp
  rw [hu, hz', mF_put (by simp [mrg_len]; omega) (by omega) (by omega), parts_of hw hS1 hS2 h1 h2 h3 h4 h5 c1 c2]
  simp
theorem sorted_sub (hs : Sorted lt (seg xs a b)) (h1 : a ≤ s) (h2 : s ≤ e) (h3 : e ≤ b) : Sorted lt (seg xs s e) := by
  rw [seg_append h1 (show s ≤ b by omega), seg_append h2 h3] at hs
  exact (List.pairwise_append.1 (List.pairwise_append.1 hs).2.1).1
theorem sym_pre1 (hS1 : Sorted lt (seg xs a m)) (hS2 : Sorted lt (seg xs m b)) (h1 : a ≤ s) (h2 : s ≤ m) (h3 : m ≤ e) (h4 : e ≤ b) (h5 : b ≤ xs.length) (hm : s + e = mid + m) (hy : ys = rotF xs s m e) : Sorted lt (seg ys a s) ∧ Sorted lt (seg ys s mid) := by
  have k1 := seg_len (xs := xs) (i := a) (j := s) (by omega)
  have k2 := seg_len (xs := xs) (i := m) (j := e) (by omega)
  have k := rot_form h1 h2 h3 h4 hy
  have e1 : seg ys a s = seg xs a s := by
    have := seg_put (A := xs.take a) (B := seg xs a s) (C := seg xs m e ++ (seg xs s m ++ (seg xs e b ++ xs.drop b))) (i := a) (j := s) (by simp; omega) (by omega)
    rw [k]; simpa using this
  have e2 : seg ys s mid = seg xs m e := by
    have := seg_put (A := xs.take a ++ seg xs a s) (B := seg xs m e) (C := seg xs s m ++ (seg xs e b ++ xs.drop b)) (i := s) (j := mid) (by simp; omega) (by omega)
    rw [k]; simpa using this
  rw [e1, e2]
  exact ⟨sorted_sub hS1 (Nat.le_refl _) h1 h2, sorted_sub hS2 (Nat.le_refl _) h3 h4⟩
theorem sym_pre2 (hS1 : Sorted lt (seg xs a m)) (hS2 : Sorted lt (seg xs m b)) (h1 : a ≤ s) (h2 : s ≤ m) (h3 : m ≤ e) (h4 : e ≤ b) (h5 : b ≤ xs.length) (hm : s + e = mid + m) (hy : ys = rotF xs s m e) (hz : zs = mF lt ys a s mid) : Sorted lt (seg zs mid e) ∧ Sorted lt (seg zs e b) := by
  have k1 := seg_len (xs := xs) (i := a) (j := s) (by omega)
  have k2 := seg_len (xs := xs) (i := m) (j := e) (by omega)
  have k3 := seg_len (xs := xs) (i := s) (j := m) (by omega)
  have k4 := seg_len (xs := xs) (i := e) (j := b) (by omega)
  rw [rot_form h1 h2 h3 h4 hy, mF_put (by simp; omega) (by omega) (by omega)] at hz
  have e1 : seg zs mid e = seg xs s m := by
    have := seg_put (A := xs.take a ++ mrg lt (seg xs a s) (seg xs m e)) (B := seg xs s m) (C := seg xs e b ++ xs.drop b) (i := mid) (j := e) (by simp [mrg_len]; omega) (by omega)
    rw [hz]; simpa using this
  have e2 : seg zs e b = seg xs e b := by
    have := seg_put (A := xs.take a ++ mrg lt (seg xs a s) (seg xs m e) ++ seg xs s m) (B := seg xs e b) (C := xs.drop b) (i := e) (j := b) (by simp [mrg_len]; omega) (by omega)
    rw [hz]; simpa using this
  rw [e1, e2]
  exact ⟨sorted_sub hS1 h1 h2 (Nat.le_refl _), sorted_sub hS2 h3 h4 (Nat.le_refl _)⟩
end sym

/-- sorted stretch by stretch -/
def chunk (lt : α → α → Bool) (bs : Nat) (xs : List α) : List α :=
  if h : bs = 0 ∨ xs.length ≤ bs then isort lt xs else isort lt (xs.take bs) ++ chunk lt bs (xs.drop bs)
termination_by xs.length
decreasing_by simp; omega
variable {bs : Nat} {xs xs0 : List α} {a : Nat}
theorem chunk_small (h : xs.length ≤ bs) : chunk lt bs xs = isort lt xs := by rw [chunk, dif_pos (.inr h)]
theorem chunk_step (hb : 0 < bs) : chunk lt bs xs = isort lt (xs.take bs) ++ chunk lt bs (xs.drop bs) := by
  by_cases h : xs.length ≤ bs
  · rw [chunk_small h, List.take_of_length_le h, List.drop_of_length_le h, chunk_small (by simp), isort_nil, List.append_nil]
  · rw [chunk, dif_neg (by omega)]
theorem chunk_len : ∀ (n : Nat) (xs : List α), xs.length ≤ n → (chunk lt bs xs).length = xs.length
  | 0, xs, h => by rw [chunk_small (by omega), isort_length]
  | n + 1, xs, h => by
    rw [chunk]
    split
    · exact isort_length _
    · rw [List.length_append, isort_length, chunk_len n _ (by simp; omega)]; simp; omega
theorem st1_step (hb : 0 < bs) (h1 : xs.take a ++ chunk lt bs (xs0.drop a) = chunk lt bs xs0) (h2 : xs.drop a = xs0.drop a) (h : a + bs ≤ xs.length) :
    (insF lt xs a (a + bs)).take (a + bs) ++ chunk lt bs (xs0.drop (a + bs)) = chunk lt bs xs0 ∧ (insF lt xs a (a + bs)).drop (a + bs) = xs0.drop (a + bs) := by
  have hs : seg xs a (a + bs) = (xs0.drop a).take bs := by rw [seg, h2, show a + bs - a = bs by omega]
  have hl : (xs.take a ++ isort lt (seg xs a (a + bs))).length = a + bs := by simp [isort_length, seg_len h]; omega
  have e : insF lt xs a (a + bs) = (xs.take a ++ isort lt (seg xs a (a + bs))) ++ xs.drop (a + bs) := by simp [insF]
  rw [e]
  constructor
  · rw [List.take_left' hl, ← h1, chunk_step hb (xs := xs0.drop a), hs, List.drop_drop]; simp
  · rw [List.drop_left' hl, ← List.drop_drop, ← List.drop_drop, h2]
theorem st1_end (h1 : xs.take a ++ chunk lt bs (xs0.drop a) = chunk lt bs xs0) (h2 : xs.drop a = xs0.drop a) (ha : a ≤ xs.length) (h : xs.length ≤ a + bs) : insF lt xs a xs.length = chunk lt bs xs0 := by
  have hl : (xs0.drop a).length ≤ bs := by rw [← h2]; simp; omega
  rw [← h1, chunk_small hl, insF, ← h2, List.drop_length, List.append_nil, seg, List.take_of_length_le (l := xs.drop a) (by simp)]
section pass
theorem st2_segs (hb : 0 < bs) (h2 : xs.drop a = chunk lt bs (xs0.drop a)) : seg xs a (a + bs) = isort lt ((xs0.drop a).take bs) ∨ xs.length < a + bs := by
  by_cases h : a + bs ≤ xs.length
  · left
    have hl : (chunk lt bs (xs0.drop a)).length = (xs0.drop a).length := chunk_len _ _ (Nat.le_refl _)
    have hx : (xs.drop a).length = (xs0.drop a).length := by rw [h2, hl]
    simp only [List.length_drop] at hx
    rw [seg, h2, chunk_step hb, show a + bs - a = bs by omega, List.take_left' (by simp [isort_length]; omega)]
  · right; omega
theorem st2_seg2 (hb : 0 < bs) (hx : xs.length = xs0.length) (h2 : xs.drop a = chunk lt bs (xs0.drop a)) (h : a + bs ≤ xs.length) : xs.drop (a + bs) = chunk lt bs (xs0.drop (a + bs)) := by
  rw [← List.drop_drop, h2, chunk_step hb, List.drop_left' (by simp [isort_length]; omega), List.drop_drop]
theorem st2_sorted (hw : Swo lt) (hb : 0 < bs) (hx : xs.length = xs0.length) (h2 : xs.drop a = chunk lt bs (xs0.drop a)) {b : Nat} (h : a + bs < b) (h3 : b ≤ a + 2 * bs) (h4 : b ≤ xs.length) (h5 : b = a + 2 * bs ∨ b = xs.length) :
    Sorted lt (seg xs a (a + bs)) ∧ Sorted lt (seg xs (a + bs) b) ∧ mrg lt (seg xs a (a + bs)) (seg xs (a + bs) b) = isort lt (seg xs0 a b) := by
  have e1 := (st2_segs hb h2).resolve_right (by omega)
  have d2 := st2_seg2 hb hx h2 (by omega)
  have e2 : seg xs (a + bs) b = isort lt (seg xs0 (a + bs) b) := by
    rcases h5 with h5 | h5
    · have := (st2_segs hb d2).resolve_right (by omega)
      rw [show b = a + bs + bs by omega, this, seg, show a + bs + bs - (a + bs) = bs by omega]
    · rw [seg, d2, chunk_small (by simp; omega), seg, List.take_of_length_le (by simp [isort_length]; omega), List.take_of_length_le (by simp; omega)]
  have e3 : seg xs0 a (a + bs) = (xs0.drop a).take bs := by rw [seg, show a + bs - a = bs by omega]
  rw [e1, e2]
  refine ⟨isort_sorted hw _, isort_sorted hw _, ?_⟩
  rw [mrg_isort hw, ← e3, ← seg_append (by omega) (by omega)]
theorem st2_step (hw : Swo lt) (hb : 0 < bs) (hx : xs.length = xs0.length) (h1 : xs.take a ++ chunk lt (2 * bs) (xs0.drop a) = chunk lt (2 * bs) xs0) (h2 : xs.drop a = chunk lt bs (xs0.drop a)) (h : a + 2 * bs ≤ xs.length) :
    (mF lt xs a (a + bs) (a + 2 * bs)).take (a + 2 * bs) ++ chunk lt (2 * bs) (xs0.drop (a + 2 * bs)) = chunk lt (2 * bs) xs0 ∧ (mF lt xs a (a + bs) (a + 2 * bs)).drop (a + 2 * bs) = chunk lt bs (xs0.drop (a + 2 * bs)) := by
  obtain ⟨_, _, hm⟩ := st2_sorted hw hb hx h2 (b := a + 2 * bs) (by omega) (by omega) h (.inl rfl)
  have hs : seg xs0 a (a + 2 * bs) = (xs0.drop a).take (2 * bs) := by rw [seg, show a + 2 * bs - a = 2 * bs by omega]
  have e : mF lt xs a (a + bs) (a + 2 * bs) = (xs.take a ++ isort lt (seg xs0 a (a + 2 * bs))) ++ xs.drop (a + 2 * bs) := by rw [mF, hm]; simp
  have hl : (xs.take a ++ isort lt (seg xs0 a (a + 2 * bs))).length = a + 2 * bs := by simp [isort_length, seg_len (show a + 2 * bs ≤ xs0.length by omega)]; omega
  rw [e]
  constructor
  · rw [List.take_left' hl, ← h1, chunk_step (by omega) (xs := xs0.drop a), hs, List.drop_drop]; simp
  · rw [List.drop_left' hl]
    have := st2_seg2 hb hx (st2_seg2 hb hx h2 (by omega)) (by omega)
    rwa [show a + bs + bs = a + 2 * bs by omega] at this
theorem st2_end (hw : Swo lt) (hb : 0 < bs) (hx : xs.length = xs0.length) (h1 : xs.take a ++ chunk lt (2 * bs) (xs0.drop a) = chunk lt (2 * bs) xs0) (h2 : xs.drop a = chunk lt bs (xs0.drop a)) (h : a + bs < xs.length) (h3 : xs.length < a + 2 * bs) :
    mF lt xs a (a + bs) xs.length = chunk lt (2 * bs) xs0 := by
  obtain ⟨_, _, hm⟩ := st2_sorted hw hb hx h2 (b := xs.length) h (by omega) (Nat.le_refl _) (.inr rfl)
  rw [mF, hm, ← h1, chunk_small (by simp; omega), List.drop_length, List.append_nil, seg, List.take_of_length_le (l := xs0.drop a) (by simp; omega)]
theorem st2_end' (hb : 0 < bs) (hx : xs.length = xs0.length) (h1 : xs.take a ++ chunk lt (2 * bs) (xs0.drop a) = chunk lt (2 * bs) xs0) (h2 : xs.drop a = chunk lt bs (xs0.drop a)) (h : xs.length ≤ a + bs) : xs = chunk lt (2 * bs) xs0 := by
  rw [← h1, chunk_small (bs := 2 * bs) (by simp; omega)]
  rw [chunk_small (by simp; omega)] at h2
  rw [← h2, List.take_append_drop]
end pass
end order
end Srt
end Go.Proofs.Ytocmchlhbniloaa
