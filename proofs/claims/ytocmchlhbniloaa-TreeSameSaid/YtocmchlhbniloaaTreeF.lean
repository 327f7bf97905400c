/-
  What is told of trees, as plain functions. No program.
-/
import Derived.Test.YtocmchlhbniloaaSelA
import Derived.Test.YtocmchlhbniloaaTree
import Derived.Test.YtocmchlhbniloaaRef
set_option linter.unusedSimpArgs false
set_option linter.unusedVariables false
namespace Go.Proofs.Ytocmchlhbniloaa
namespace B
open Srt
theorem TlS.at {w w' : World} {v : Value} {ts : List Tr} (h : TlS w v ts) (he : Ext (Nw w) w w') : TlS w' v ts :=
  ⟨h.sl.keep he fun hn hk => (by have := h.sl.lt hn; simp only [Nw] at hk; omega), fun t ht => (h.all t ht).at he⟩
theorem nth_memI {α : Type} [Inhabited α] {xs : List α} {i : Int} (h0 : 0 ≤ i) (h1 : i < xs.length) : nth xs i ∈ xs := by
  obtain ⟨k, rfl⟩ : ∃ k : Nat, i = (k : Int) := ⟨i.toNat, by omega⟩
  exact List.mem_of_getElem? (nth_lt (by omega))
/-- sums over kids -/
def sumL (xs : List Int) : Int := xs.foldl (· + ·) 0
theorem sumL_snoc (xs : List Int) (x : Int) : sumL (xs ++ [x]) = sumL xs + x := by simp [sumL]
theorem sumL_take {xs : List Int} {k : Nat} (h : k < xs.length) : sumL (xs.take (k + 1)) = sumL (xs.take k) + nth xs (k : Int) := by rw [take_snoc h, sumL_snoc]
theorem sumL_pos {xs : List Int} (h : ∀ x ∈ xs, 0 ≤ x) : 0 ≤ sumL xs := by
  induction xs using snoc_ind with
  | h0 => exact Int.le_refl _
  | h1 xs x ih =>
    rw [sumL_snoc]
    have := ih fun y hy => h y (by simp [hy])
    have := h x (by simp)
    omega
theorem sumL_app (xs ys : List Int) : sumL (xs ++ ys) = sumL xs + sumL ys := by
  induction ys using snoc_ind with
  | h0 => simp [sumL]
  | h1 ys y ih => rw [← List.append_assoc, sumL_snoc, ih, sumL_snoc]; omega
theorem sumL_le {xs : List Int} (h : ∀ x ∈ xs, 0 ≤ x) (k : Nat) : 0 ≤ sumL (xs.take k) ∧ sumL (xs.take k) ≤ sumL xs := by
  have h1 : 0 ≤ sumL (xs.take k) := sumL_pos fun x hx => h x (List.mem_of_mem_take hx)
  have h2 : 0 ≤ sumL (xs.drop k) := sumL_pos fun x hx => h x (List.mem_of_mem_drop hx)
  have h3 := sumL_app (xs.take k) (xs.drop k)
  rw [List.take_append_drop] at h3
  omega
theorem sumL_mem {xs : List Int} (h : ∀ x ∈ xs, 0 ≤ x) {x : Int} (hx : x ∈ xs) : x ≤ sumL xs := by
  obtain ⟨A, B, rfl⟩ := List.append_of_mem hx
  rw [show A ++ x :: B = (A ++ [x]) ++ B by simp, sumL_app, sumL_snoc]
  have h1 : 0 ≤ sumL A := sumL_pos fun y hy => h y (by simp [hy])
  have h2 : 0 ≤ sumL B := sumL_pos fun y hy => h y (by simp [hy])
  omega
section
variable {β : Type}
mutual
def foldF (g : Tr → List β → β) : Tr → β
  | ⟨k, ch, ng, rv, rows, mn, mx, lz, kv, kids⟩ => g ⟨k, ch, ng, rv, rows, mn, mx, lz, kv, kids⟩ (foldL g kids)
def foldL (g : Tr → List β → β) : List Tr → List β
  | [] => []
  | t :: ts => foldF g t :: foldL g ts
end
theorem foldL_map (g : Tr → List β → β) (ts : List Tr) : foldL g ts = ts.map (foldF g) := by
  induction ts with
  | nil => rfl
  | cons t ts ih => rw [foldL, ih]; rfl
theorem foldF_eq (g : Tr → List β → β) (t : Tr) : foldF g t = g t (t.kids.map (foldF g)) := by cases t; simp [foldF, foldL_map]
theorem foldF_er {g : Tr → List β → β} (hg : ∀ t l, g (er t) l = g t l) (t : Tr) : foldF g (er t) = foldF g t := by
  induction t using Tr.ind with
  | h t ih =>
    rw [foldF_eq, foldF_eq g t, er_kids, List.map_map, hg]
    congr 1
    exact List.map_congr_left ih
end
def partsF : Tr → Int := foldF fun _ l => 1 + sumL l
theorem partsF_eq (t : Tr) : partsF t = 1 + sumL (t.kids.map partsF) := foldF_eq _ t
def grpB (t : Tr) : Bool := decide (t.k = 5) || decide (t.k = 6)
def groupsF : Tr → Int := foldF fun t l => (if t.k = 5 then 1 else 0) + sumL l
theorem groupsF_eq (t : Tr) : groupsF t = (if t.k = 5 then 1 else 0) + sumL (t.kids.map groupsF) := foldF_eq _ t
def maxL (xs : List Int) : Int := xs.foldl max 0
theorem maxL_snoc (xs : List Int) (x : Int) : maxL (xs ++ [x]) = max (maxL xs) x := by simp [maxL]
def deepF : Tr → Int := foldF fun t l => maxL l + if grpB t = true then 1 else 0
theorem deepF_eq (t : Tr) : deepF t = maxL (t.kids.map deepF) + if grpB t = true then 1 else 0 := foldF_eq _ t
theorem partsF_pos (t : Tr) : 1 ≤ partsF t := by
  induction t using Tr.ind with
  | h t ih =>
    rw [partsF_eq]
    have : 0 ≤ sumL (t.kids.map partsF) := sumL_pos fun x hx => by
      obtain ⟨k, hk, rfl⟩ := List.mem_map.1 hx
      have := ih k hk; omega
    omega
theorem er_k (t : Tr) : (er t).k = t.k := by cases t; rfl
theorem partsF_er (t : Tr) : partsF (er t) = partsF t := foldF_er (fun _ _ => rfl) t
theorem groupsF_er (t : Tr) : groupsF (er t) = groupsF t := foldF_er (fun t l => by simp only [er_k]) t
theorem deepF_er (t : Tr) : deepF (er t) = deepF t := foldF_er (fun t l => by rw [show grpB (er t) = grpB t by unfold grpB; rw [er_k]]) t
theorem maxL_pos (xs : List Int) : 0 ≤ maxL xs := by
  induction xs using snoc_ind with
  | h0 => exact Int.le_refl _
  | h1 xs x ih => rw [maxL_snoc]; omega
theorem maxL_le {xs : List Int} {n : Int} (h0 : 0 ≤ n) (h : ∀ x ∈ xs, x ≤ n) : maxL xs ≤ n := by
  induction xs using snoc_ind with
  | h0 => exact h0
  | h1 xs x ih =>
    rw [maxL_snoc]
    have := ih fun y hy => h y (by simp [hy])
    have := h x (by simp)
    omega
theorem maxL_mem {xs : List Int} {x : Int} (h : x ∈ xs) : x ≤ maxL xs := by
  induction xs using snoc_ind with
  | h0 => cases h
  | h1 xs y ih =>
    rw [maxL_snoc]
    rcases List.mem_append.1 h with h | h
    · have := ih h; omega
    · simp at h; subst h; omega
theorem maxL_step {f : Tr → Int} {ts : List Tr} {k : Nat} (h : k < ts.length) : maxL ((ts.take (k + 1)).map f) = max (maxL ((ts.take k).map f)) (f (nth ts (k : Int))) := by
  rw [take_snoc h, List.map_append, List.map_cons, List.map_nil, maxL_snoc]
theorem groupsF_bound (t : Tr) : 0 ≤ groupsF t ∧ groupsF t ≤ partsF t := by
  induction t using Tr.ind with
  | h t ih =>
    rw [groupsF_eq, partsF_eq]
    have h1 : ∀ ks : List Tr, (∀ k ∈ ks, 0 ≤ groupsF k ∧ groupsF k ≤ partsF k) → 0 ≤ sumL (ks.map groupsF) ∧ sumL (ks.map groupsF) ≤ sumL (ks.map partsF) := by
      intro ks
      induction ks using snoc_ind with
      | h0 => intro _; exact ⟨Int.le_refl _, Int.le_refl _⟩
      | h1 ks x ih2 =>
        intro h
        rw [List.map_append, List.map_append, List.map_cons, List.map_nil, List.map_cons, List.map_nil, sumL_snoc, sumL_snoc]
        have := ih2 fun k hk => h k (by simp [hk])
        have := h x (by simp)
        omega
    have := h1 t.kids ih
    split <;> omega
theorem deepF_bound (t : Tr) : 0 ≤ deepF t ∧ deepF t ≤ partsF t := by
  induction t using Tr.ind with
  | h t ih =>
    rw [deepF_eq, partsF_eq]
    have hp : ∀ k ∈ t.kids, 0 ≤ partsF k := fun k _ => by have := partsF_pos k; omega
    have h0 := maxL_pos (t.kids.map deepF)
    have h1 : maxL (t.kids.map deepF) ≤ sumL (t.kids.map partsF) := maxL_le (sumL_pos fun x hx => by obtain ⟨k, hk, rfl⟩ := List.mem_map.1 hx; exact hp k hk) fun x hx => by
      obtain ⟨k, hk, rfl⟩ := List.mem_map.1 hx
      have := (ih k hk).2
      have : partsF k ≤ sumL (t.kids.map partsF) := sumL_mem (fun x hx => by obtain ⟨k, hk, rfl⟩ := List.mem_map.1 hx; exact hp k hk) (List.mem_map.2 ⟨k, hk, rfl⟩)
      omega
    split <;> omega
/-! ### Where the first is -/
def ixF {α : Type} (f : α → Bool) (xs : List α) : Int := if xs.any f = true then ((xs.takeWhile fun y => !f y).length : Int) else -1
theorem ix_hit {α : Type} [Inhabited α] {f : α → Bool} {xs : List α} {k : Nat} (h : k < xs.length) (hq : ∀ y ∈ xs.take k, f y = false) (hc : f (nth xs (k : Int)) = true) : ixF f xs = (k : Int) := by
  unfold ixF
  rw [if_pos (List.any_eq_true.2 ⟨_, nth_memI (by omega) (by omega), hc⟩)]
  have e : xs = xs.take k ++ nth xs (k : Int) :: xs.drop (k + 1) := by rw [← drop_cons h, List.take_append_drop]
  have e2 : xs.takeWhile (fun y => !f y) = xs.take k := by
    conv => lhs; rw [e]
    rw [List.takeWhile_append_of_pos (fun y hy => by rw [hq y hy]; rfl), List.takeWhile_cons, if_neg (by rw [hc]; decide), List.append_nil]
  rw [e2, List.length_take]; omega
theorem ix_miss {α : Type} [Inhabited α] {f : α → Bool} {xs : List α} {k : Nat} (h : xs.length ≤ k) (hq : ∀ y ∈ xs.take k, f y = false) : ixF f xs = -1 := by
  rw [List.take_of_length_le h] at hq
  unfold ixF
  rw [if_neg]
  rw [List.any_eq_true]
  rintro ⟨y, hy, hf⟩
  rw [hq y hy] at hf; cases hf
theorem ix_step {α : Type} [Inhabited α] {f : α → Bool} {xs : List α} {k : Nat} (h : k < xs.length) (hq : ∀ y ∈ xs.take k, f y = false) (hc : f (nth xs (k : Int)) = false) : ∀ y ∈ xs.take (k + 1), f y = false := by
  rw [take_snoc h]
  intro y hy
  rcases List.mem_append.1 hy with hy | hy
  · exact hq y hy
  · simp at hy; rw [hy]; exact hc
theorem ix_any {α : Type} (f : α → Bool) (xs : List α) : decide (0 ≤ ixF f xs) = xs.any f := by
  unfold ixF
  cases xs.any f <;> simp
/-! ### How much a tree is -/
def rxRows : Int → List (ByteArray × ByteArray) → Option Int
  | n, [] => some n
  | n, r :: rs => if (decide (n ≤ (r.1.size : Int)) || decide (n ≤ (r.2.size : Int))) = true then none else rxRows (n - 1 - (r.1.size : Int) - (r.2.size : Int)) rs
def rxTop (t : Tr) (n : Int) : Bool := (decide (n ≤ (t.ch.size : Int)) || decide (n ≤ (t.rows.length : Int))) || decide (n ≤ (t.kids.length : Int))
def rxL (l : List (Int → Int)) (n : Int) : Int := l.foldl (fun m g => if m < 0 then m else g m) n
def rxF : Tr → Int → Int := foldF fun t l n => if rxTop t n = true then -1 else match rxRows (n - 1 - (t.ch.size : Int)) t.rows with
  | none => -1
  | some m => rxL l m
def rxK (ks : List Tr) (n : Int) : Int := rxL (ks.map rxF) n
theorem rxF_eq (t : Tr) (n : Int) : rxF t n = if rxTop t n = true then -1 else match rxRows (n - 1 - (t.ch.size : Int)) t.rows with
  | none => -1
  | some m => rxK t.kids m := by
  have h := congrFun (foldF_eq (fun t l n => if rxTop t n = true then (-1 : Int) else match rxRows (n - 1 - (t.ch.size : Int)) t.rows with
    | none => -1
    | some m => rxL l m) t) n
  exact h
theorem rxL_cons (g : Int → Int) (l : List (Int → Int)) (n : Int) : rxL (g :: l) n = rxL l (if n < 0 then n else g n) := rfl
theorem rxK_cons (t : Tr) (ks : List Tr) (n : Int) : rxK (t :: ks) n = rxK ks (if n < 0 then n else rxF t n) := rfl
theorem rxK_neg {ks : List Tr} {n : Int} (h : n < 0) : rxK ks n = n := by
  induction ks with
  | nil => rfl
  | cons k ks ih => rw [rxK_cons, if_pos h, ih]
theorem rxRows_range {rs : List (ByteArray × ByteArray)} {n m M : Int} (h1 : -M ≤ n) (h2 : n ≤ M) (h : rxRows n rs = some m) : -M ≤ m ∧ m ≤ n := by
  induction rs generalizing n with
  | nil => simp [rxRows] at h; subst h; exact ⟨h1, Int.le_refl _⟩
  | cons r rs ih =>
    rw [rxRows] at h
    split at h
    · cases h
    · rename_i hc
      simp only [Bool.or_eq_true, decide_eq_true_eq, not_or, Int.not_le] at hc
      have := ih (by omega) (by omega) h
      omega
theorem rxF_range (t : Tr) : ∀ {n M : Int}, 1 ≤ M → n ≤ M → -M ≤ rxF t n ∧ rxF t n ≤ M := by
  induction t using Tr.ind with
  | h t ih =>
    intro n M h1 h2
    have hK : ∀ ks : List Tr, (∀ k ∈ ks, k ∈ t.kids) → ∀ m, -M ≤ m → m ≤ M → -M ≤ rxK ks m ∧ rxK ks m ≤ M := by
      intro ks
      induction ks with
      | nil => intro _ m a b; exact ⟨a, b⟩
      | cons k ks ih2 =>
        intro hm m a b
        rw [rxK_cons]
        split
        · exact ih2 (fun x hx => hm x (by simp [hx])) m a b
        · have := ih k (hm k (by simp)) h1 b
          exact ih2 (fun x hx => hm x (by simp [hx])) _ this.1 this.2
    rw [rxF_eq]
    split
    · omega
    · rename_i hc
      unfold rxTop at hc
      simp only [Bool.or_eq_true, decide_eq_true_eq, not_or, Int.not_le] at hc
      split
      · omega
      · rename_i m hm
        have := rxRows_range (M := M) (by omega) (by omega) hm
        exact hK t.kids (fun _ h => h) m (by omega) (by omega)
theorem rxF_top {t : Tr} {n : Int} (h : rxTop t n = true) : rxF t n = -1 := by rw [rxF_eq, if_pos h]
theorem rxF_row {t : Tr} {n m : Int} {k : Nat} (h : rxTop t n = false) (hq : rxRows (n - 1 - (t.ch.size : Int)) t.rows = rxRows m (t.rows.drop k)) (hk : k < t.rows.length) (hc : (decide (m ≤ ((nth t.rows (k : Int)).1.size : Int)) || decide (m ≤ ((nth t.rows (k : Int)).2.size : Int))) = true) : rxF t n = -1 := by
  rw [rxF_eq, if_neg (by rw [h]; decide), hq, drop_cons hk, rxRows, if_pos hc]
theorem rxRows_next {t : Tr} {m : Int} {k : Nat} {x : Option Int} (hq : x = rxRows m (t.rows.drop k)) (hk : k < t.rows.length) (hc : (decide (m ≤ ((nth t.rows (k : Int)).1.size : Int)) || decide (m ≤ ((nth t.rows (k : Int)).2.size : Int))) = false) : x = rxRows (m - 1 - ((nth t.rows (k : Int)).1.size : Int) - ((nth t.rows (k : Int)).2.size : Int)) (t.rows.drop (k + 1)) := by
  rw [hq, drop_cons hk, rxRows, if_neg (by rw [hc]; decide)]
theorem rxF_end {t : Tr} {n m l : Int} {k j : Nat} (h : rxTop t n = false) (hq : rxRows (n - 1 - (t.ch.size : Int)) t.rows = rxRows m (t.rows.drop k)) (hk : t.rows.length ≤ k) (hj : rxK t.kids m = rxK (t.kids.drop j) l) (hd : l < 0 ∨ t.kids.length ≤ j) : rxF t n = l := by
  rw [rxF_eq, if_neg (by rw [h]; decide), hq, List.drop_of_length_le hk, rxRows]
  show rxK t.kids m = l
  rw [hj]
  rcases hd with hd | hd
  · exact rxK_neg hd
  · rw [List.drop_of_length_le hd]; rfl
theorem rxK_next {ks : List Tr} {l x : Int} {j : Nat} (h : x = rxK (ks.drop j) l) (hj : j < ks.length) (h0 : 0 ≤ l) : x = rxK (ks.drop (j + 1)) (rxF (nth ks (j : Int)) l) := by
  rw [h, drop_cons hj, rxK_cons, if_neg (by omega)]
/-! ### The same tree -/
theorem nth_map' {α β : Type} [Inhabited α] [Inhabited β] {f : α → β} {xs : List α} {k : Nat} (h : k < xs.length) : nth (xs.map f) (k : Int) = f (nth xs (k : Int)) :=
  nth_of (by rw [List.getElem?_map, nth_lt h]; rfl)
open Classical in
noncomputable def sameF (a b : Tr) : Bool := decide (er a = er b)
open Classical in
noncomputable def samesF (a b : List Tr) : Bool := decide (a.map er = b.map er)
theorem sameF_iff {a b : Tr} : sameF a b = true ↔ er a = er b := by simp [sameF]
theorem samesF_iff {a b : List Tr} : samesF a b = true ↔ a.map er = b.map er := by simp [samesF]
theorem sameF_parts (a b : Tr) : sameF a b = true ↔ a.k = b.k ∧ a.ch = b.ch ∧ a.ng = b.ng ∧ a.rows = b.rows ∧ a.mn = b.mn ∧ a.mx = b.mx ∧ a.lz = b.lz ∧ samesF a.kids b.kids = true := by
  rw [sameF_iff, er_eq a, er_eq b, samesF_iff]
  constructor
  · intro h; injection h with h1 h2 h3 h4 h5 h6 h7 h8 h9 h10; exact ⟨h1, h2, h3, h5, h6, h7, h8, h10⟩
  · rintro ⟨h1, h2, h3, h5, h6, h7, h8, h10⟩; rw [h1, h2, h3, h5, h6, h7, h8, h10]
theorem samesF_len {ts us : List Tr} (h : ¬ (ts.length : Int) = us.length) : samesF ts us = false := by
  rw [← Bool.not_eq_true, samesF_iff]
  intro e
  have := congrArg List.length e
  simp at this
  omega
theorem samesF_no {ts us : List Tr} {k : Nat} (h : k < ts.length) (h2 : k < us.length) (hd : sameF (nth ts (k : Int)) (nth us (k : Int)) = false) : samesF ts us = false := by
  rw [← Bool.not_eq_true, samesF_iff]
  intro e
  have e1 := congrArg (fun l => nth l (k : Int)) e
  simp only [nth_map' h, nth_map' h2] at e1
  rw [sameF_iff.2 e1] at hd; cases hd
theorem samesF_yes {ts us : List Tr} {k : Nat} (hl : ts.length = us.length) (h : ts.length ≤ k) (hq : (ts.take k).map er = (us.take k).map er) : samesF ts us = true := by
  rw [List.take_of_length_le h, List.take_of_length_le (by omega)] at hq
  exact samesF_iff.2 hq
theorem samesF_step {ts us : List Tr} {k : Nat} (h : k < ts.length) (h2 : k < us.length) (hq : (ts.take k).map er = (us.take k).map er) (hd : sameF (nth ts (k : Int)) (nth us (k : Int)) = true) : (ts.take (k + 1)).map er = (us.take (k + 1)).map er := by
  rw [take_snoc h, take_snoc h2, List.map_append, List.map_append, hq, List.map_cons, List.map_cons, sameF_iff.1 hd, List.map_nil]
theorem same_ne {a b : Tr} (h : (((((((!decide (a.k = b.k) || (!(eqT a.ch b.ch))) || (!(a.ng == b.ng))) || (!decide (a.mn = b.mn))) || (!decide (a.mx = b.mx))) || (!(a.lz == b.lz))) || (!decide ((a.rows.length : Int) = (b.rows.length : Int)))) || (!decide ((a.kids.length : Int) = (b.kids.length : Int)))) = true) : sameF a b = false := by
  rw [← Bool.not_eq_true, sameF_parts]
  rintro ⟨h1, h2, h3, h4, h5, h6, h7, h8⟩
  have h9 := congrArg List.length (samesF_iff.1 h8)
  simp only [List.length_map] at h9
  have h10 : eqT b.ch b.ch = true := eqT_iff.2 rfl
  simp [h1, h2, h3, h4, h5, h6, h7, h9, h10] at h
theorem same_row {a b : Tr} {k : Nat} (h : ¬ nth a.rows (k : Int) = nth b.rows (k : Int)) : sameF a b = false := by
  rw [← Bool.not_eq_true, sameF_parts]
  rintro ⟨_, _, _, e, _⟩
  rw [e] at h; exact h rfl
theorem same_kid {a b : Tr} (h : samesF a.kids b.kids = false) : sameF a b = false := by
  rw [← Bool.not_eq_true, sameF_parts]
  rintro ⟨_, _, _, _, _, _, _, e⟩
  rw [e] at h; cases h
theorem same_all {a b : Tr} (h : (((((((!decide (a.k = b.k) || (!(eqT a.ch b.ch))) || (!(a.ng == b.ng))) || (!decide (a.mn = b.mn))) || (!decide (a.mx = b.mx))) || (!(a.lz == b.lz))) || (!decide ((a.rows.length : Int) = (b.rows.length : Int)))) || (!decide ((a.kids.length : Int) = (b.kids.length : Int)))) = false) {k m : Nat} (hr : a.rows.take k = b.rows.take k) (hk : a.rows.length ≤ k) (hs : (a.kids.take m).map er = (b.kids.take m).map er) (hm : a.kids.length ≤ m) : sameF a b = true := by
  simp only [Bool.or_eq_false_iff, Bool.not_eq_false', decide_eq_true_eq, beq_iff_eq, eqT_iff] at h
  obtain ⟨⟨⟨⟨⟨⟨⟨h1, h2⟩, h3⟩, h4⟩, h5⟩, h6⟩, h7⟩, h8⟩ := h
  rw [List.take_of_length_le hk, List.take_of_length_le (by omega)] at hr
  exact (sameF_parts a b).2 ⟨h1, h2, h3, hr, h4, h5, h6, samesF_yes (by omega) hm hs⟩
theorem sameF_comm (a b : Tr) : sameF a b = sameF b a := by rw [Bool.eq_iff_iff, sameF_iff, sameF_iff]; exact eq_comm
theorem sameF_self (a : Tr) : sameF a a = true := sameF_iff.2 rfl
/-- a loop that sums up -/
theorem sum_step {f : Tr → Int} {ts : List Tr} {k : Nat} (h : k < ts.length) : sumL ((ts.take (k + 1)).map f) = sumL ((ts.take k).map f) + f (nth ts (k : Int)) := by
  rw [take_snoc h, List.map_append, List.map_cons, List.map_nil, sumL_snoc]
theorem sum_le {f : Tr → Int} {ts : List Tr} (hf : ∀ t ∈ ts, 0 ≤ f t) (k : Nat) : 0 ≤ sumL ((ts.take k).map f) ∧ sumL ((ts.take k).map f) ≤ sumL (ts.map f) := by
  rw [List.map_take]
  exact sumL_le (fun x hx => by obtain ⟨t, ht, rfl⟩ := List.mem_map.1 hx; exact hf t ht) k
theorem sum_mem {f : Tr → Int} {ts : List Tr} (hf : ∀ t ∈ ts, 0 ≤ f t) {t : Tr} (ht : t ∈ ts) : f t ≤ sumL (ts.map f) :=
  sumL_mem (fun x hx => by obtain ⟨t, ht, rfl⟩ := List.mem_map.1 hx; exact hf t ht) (List.mem_map.2 ⟨t, ht, rfl⟩)
end B
end Go.Proofs.Ytocmchlhbniloaa
