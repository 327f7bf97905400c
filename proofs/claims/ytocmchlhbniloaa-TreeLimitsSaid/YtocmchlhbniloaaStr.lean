/-
  Strings by their bytes: their order, characters, letters. No program.
-/
import Derived.Test.YtocmchlhbniloaaBaseY
import Derived.Test.YtocmchlhbniloaaSort3
set_option linter.unusedSimpArgs false
set_option linter.unusedVariables false
namespace Go.Proofs.Ytocmchlhbniloaa
namespace B
open Srt
def bs (s : ByteArray) : List UInt8 := s.data.toList
def tx (l : List UInt8) : ByteArray := ⟨l.toArray⟩
theorem bs_tx (l : List UInt8) : bs (tx l) = l := by simp [bs, tx]
theorem tx_bs (s : ByteArray) : tx (bs s) = s := by cases s; simp [bs, tx]
theorem bs_len (s : ByteArray) : (bs s).length = s.size := by simp [bs]
theorem tx_size (l : List UInt8) : (tx l).size = l.length := by rw [← bs_len, bs_tx]
theorem bs_append (s u : ByteArray) : bs (s ++ u) = bs s ++ bs u := by simp [bs]
theorem bs_inj {s u : ByteArray} (h : bs s = bs u) : s = u := by rw [← tx_bs s, h, tx_bs]
theorem bs_extract (s : ByteArray) (i j : Nat) : bs (s.extract i j) = seg (bs s) i j := by
  simp [bs, seg, ByteArray.data_extract]
theorem eqT_self (s : ByteArray) : eqT s s = true := eqT_iff.2 rfl
theorem byteAt_eq {s : ByteArray} {k : Nat} {b : UInt8} (h : (bs s)[k]? = some b) : byteAt s (k : Int) = b.toNat := by
  unfold byteAt
  have e : s.data.toList = bs s := rfl
  rw [e, Int.toNat_natCast, List.getD_eq_getElem?_getD, h]; rfl
/-! ### The order -/
theorem less_irr : ∀ x : List UInt8, Op.bytesLess x x = false
  | [] => rfl
  | a :: x => by
    rw [Op.bytesLess, less_irr x, Bool.and_false, Bool.or_false]
    simp
theorem u8_lt {a b : UInt8} : (decide (a < b) = true) ↔ a.toNat < b.toNat := by rw [decide_eq_true_eq]; exact UInt8.lt_iff_toNat_lt
theorem u8_eq {a b : UInt8} : ((a == b) = true) ↔ a.toNat = b.toNat := by rw [beq_iff_eq]; exact UInt8.toNat_inj.symm
theorem less_cons {a b : UInt8} {x y : List UInt8} : Op.bytesLess (a :: x) (b :: y) = true ↔ a.toNat < b.toNat ∨ (a.toNat = b.toNat ∧ Op.bytesLess x y = true) := by
  rw [Op.bytesLess, Bool.or_eq_true, Bool.and_eq_true, u8_lt, u8_eq]
theorem less_trans : ∀ {x y z : List UInt8}, Op.bytesLess x y = true → Op.bytesLess y z = true → Op.bytesLess x z = true
  | x, y, [], _, h => by cases y <;> simp [Op.bytesLess] at h
  | x, [], c :: z, h, _ => by cases x <;> simp [Op.bytesLess] at h
  | [], b :: y, c :: z, _, _ => by simp [Op.bytesLess]
  | a :: x, b :: y, c :: z, h1, h2 => by
    rw [less_cons] at h1 h2 ⊢
    rcases h1 with h1 | ⟨h1, h1'⟩
    · rcases h2 with h2 | ⟨h2, _⟩ <;> left <;> omega
    · rcases h2 with h2 | ⟨h2, h2'⟩
      · left; omega
      · exact .inr ⟨by omega, less_trans h1' h2'⟩
theorem less_tri : ∀ x y : List UInt8, Op.bytesLess x y = true ∨ x = y ∨ Op.bytesLess y x = true
  | [], [] => .inr (.inl rfl)
  | [], b :: y => .inl (by simp [Op.bytesLess])
  | a :: x, [] => .inr (.inr (by simp [Op.bytesLess]))
  | a :: x, b :: y => by
    rw [less_cons, less_cons]
    rcases Nat.lt_trichotomy a.toNat b.toNat with h | h | h
    · exact .inl (.inl h)
    · rcases less_tri x y with h' | h' | h'
      · exact .inl (.inr ⟨h, h'⟩)
      · exact .inr (.inl (by rw [UInt8.toNat_inj.1 h, h']))
      · exact .inr (.inr (.inr ⟨h.symm, h'⟩))
    · exact .inr (.inr (.inl h))
theorem toList_bs (s : ByteArray) : s.toList = bs s := ByteArray.toList_eq s
theorem ltT_irr (x : ByteArray) : ltT x x = false := less_irr _
theorem ltT_trans {x y z : ByteArray} (h1 : ltT x y = true) (h2 : ltT y z = true) : ltT x z = true := less_trans h1 h2
theorem ltT_tri (x y : ByteArray) : ltT x y = true ∨ x = y ∨ ltT y x = true := by
  rcases less_tri x.toList y.toList with h | h | h
  · exact .inl h
  · rw [toList_bs, toList_bs] at h; exact .inr (.inl (bs_inj h))
  · exact .inr (.inr h)
theorem ltT_asymm {x y : ByteArray} (h : ltT x y = true) : ltT y x = false := by
  cases hb : ltT y x with
  | false => rfl
  | true => have := ltT_trans h hb; rw [ltT_irr] at this; cases this
theorem leT_iff {x y : ByteArray} : leT x y = true ↔ ltT y x = false := by
  unfold leT
  rw [Bool.or_eq_true, eqT_iff]
  constructor
  · rintro (h | rfl)
    · exact ltT_asymm h
    · exact ltT_irr _
  · intro h
    rcases ltT_tri x y with h' | h' | h'
    · exact .inl h'
    · exact .inr h'
    · rw [h] at h'; cases h'
/-- a string's place among some -/
def rk (S : List ByteArray) (x : ByteArray) : Int := ((S.countP fun z => ltT z x : Nat) : Int)
theorem rk_lt {S : List ByteArray} {x y : ByteArray} (hx : x ∈ S) (h : ltT x y = true) : rk S x < rk S y := by
  unfold rk
  have key : ∀ L : List ByteArray, L.countP (fun z => ltT z x) ≤ L.countP (fun z => ltT z y) := fun L => List.countP_mono_left fun z _ hz => ltT_trans hz h
  have : S.countP (fun z => ltT z x) < S.countP (fun z => ltT z y) := by
    induction S with
    | nil => cases hx
    | cons a S ih =>
      rw [List.countP_cons, List.countP_cons]
      rcases List.mem_cons.1 hx with rfl | hx
      · rw [ltT_irr, h]
        have := key S
        simp; omega
      · have := ih hx
        cases ha : ltT a x with
        | false => simp; split <;> omega
        | true => rw [ltT_trans ha h]; simp; omega
  omega
theorem rk_iff {S : List ByteArray} {x y : ByteArray} (hx : x ∈ S) (hy : y ∈ S) : ltT x y = true ↔ rk S x < rk S y := by
  constructor
  · exact rk_lt hx
  · intro h
    rcases ltT_tri x y with h' | h' | h'
    · exact h'
    · subst h'; omega
    · have := rk_lt hy h'; omega
theorem rk_le {S : List ByteArray} {x y : ByteArray} (hx : x ∈ S) (hy : y ∈ S) : leT x y = true ↔ rk S x ≤ rk S y := by
  rw [leT_iff, ← Bool.not_eq_true, rk_iff hy hx]; omega
theorem rk_inj {S : List ByteArray} {x y : ByteArray} (hx : x ∈ S) (hy : y ∈ S) (h : rk S x = rk S y) : x = y := by
  rcases ltT_tri x y with h' | h' | h'
  · have := rk_lt hx h'; omega
  · exact h'
  · have := rk_lt hy h'; omega
theorem maxT_mem {S : List ByteArray} {x y : ByteArray} (hx : x ∈ S) (hy : y ∈ S) : maxT x y ∈ S ∧ rk S (maxT x y) = max (rk S x) (rk S y) := by
  unfold maxT
  split
  · rename_i h; rw [rk_iff hx hy] at h; exact ⟨hy, by omega⟩
  · rename_i h; rw [rk_iff hx hy] at h; exact ⟨hx, by omega⟩
def cmpT (x y : ByteArray) : Int := if ltT x y = true then -1 else if ltT y x = true then 1 else 0
/-! ### Characters -/
def inB (n : Int) : Bool := decide (128 ≤ n) && decide (n ≤ 191)
def inU (b : UInt8) : Bool := inB (b.toNat : Int)
def tw (s : ByteArray) (k : Nat) : Nat := (((bs s).drop k).takeWhile inU).length
def endF (s : ByteArray) (at' : Nat) : Nat := at' + 1 + tw s (at' + 1)
theorem tw_step {s : ByteArray} {k : Nat} (h : k < s.size) (hb : inB (byteAt s (k : Int)) = true) : k + tw s k = k + 1 + tw s (k + 1) := by
  obtain ⟨b, hk⟩ : ∃ b, (bs s)[k]? = some b := ⟨_, List.getElem?_eq_getElem (by rw [bs_len]; exact h)⟩
  have hd : (bs s).drop k = b :: (bs s).drop (k + 1) := by
    have hlt : k < (bs s).length := by rw [bs_len]; exact h
    rw [List.drop_eq_getElem_cons hlt]
    rw [List.getElem?_eq_getElem hlt] at hk
    cases hk; rfl
  unfold tw
  have hb' : inU b = true := by unfold inU; rw [← byteAt_eq hk]; exact hb
  rw [hd, List.takeWhile_cons, if_pos hb', List.length_cons]; omega
theorem tw_stop {s : ByteArray} {k : Nat} (h : s.size ≤ k ∨ inB (byteAt s (k : Int)) = false) : tw s k = 0 := by
  unfold tw
  by_cases hk : k < s.size
  · have hlt : k < (bs s).length := by rw [bs_len]; exact hk
    rw [List.drop_eq_getElem_cons hlt]
    have hb : inB (byteAt s (k : Int)) = false := h.resolve_left (by omega)
    rw [byteAt_eq (List.getElem?_eq_getElem hlt)] at hb
    rw [List.takeWhile_cons, if_neg (by unfold inU; rw [hb]; decide)]; rfl
  · rw [List.drop_of_length_le (by rw [bs_len]; omega)]; rfl
theorem tw_le (s : ByteArray) (k : Nat) (h : k ≤ s.size) : k + tw s k ≤ s.size := by
  unfold tw
  have := (List.takeWhile_sublist inU (l := (bs s).drop k)).length_le
  rw [List.length_drop, bs_len] at this
  omega
def properB (s : ByteArray) : Bool := match bs s with
  | [] => false
  | b :: l => !inU b && l.all inU
theorem all_tw {l : List UInt8} : (l.takeWhile inU).length = l.length ↔ l.all inU = true := by
  induction l with
  | nil => simp
  | cons b l ih =>
    rw [List.takeWhile_cons, List.all_cons]
    cases hb : inU b with
    | false => simp
    | true => simp [ih]
theorem proper_eq (s : ByteArray) : ((!eqT s (⟨#[]⟩ : ByteArray) && !inB (byteAt s (0 : Int))) && decide ((endF s 0 : Int) = (s.size : Int))) = properB s := by
  have hl := bs_len s
  have e0 : eqT s (⟨#[]⟩ : ByteArray) = decide (bs s = []) := eqT_eq s _
  have et : endF s 0 = 1 + (((bs s).drop 1).takeWhile inU).length := by unfold endF tw; simp
  unfold properB
  rw [e0, et]
  cases hb : bs s with
  | nil => simp
  | cons b l =>
    have e1 : byteAt s (0 : Int) = b.toNat := byteAt_eq (k := 0) (by rw [hb]; rfl)
    rw [e1]
    rw [hb] at hl
    simp only [List.length_cons] at hl
    have e2 : decide (((1 + ((List.drop 1 (b :: l)).takeWhile inU).length : Nat) : Int) = (s.size : Int)) = l.all inU := by
      rw [Bool.eq_iff_iff, decide_eq_true_eq, ← all_tw]
      simp only [List.drop_succ_cons, List.drop_zero]
      omega
    rw [e2]
    simp [inU]
def leadB (n : Int) : Bool := decide (n < 128) || decide (191 < n)
theorem lead_eq (n : Int) : leadB n = !inB n := by
  unfold leadB inB
  by_cases h1 : n < 128 <;> by_cases h2 : 191 < n <;> simp [h1, h2] <;> omega
/-! ### What a text is cut into -/
def spStep (s : ByteArray) (st : List ByteArray × Nat) (i : Nat) : List ByteArray × Nat :=
  if (decide ((i : Int) = (s.size : Int)) || leadB (byteAt s (i : Int))) = true then (st.1 ++ [s.extract st.2 i], i) else st
def spS (s : ByteArray) : Nat → List ByteArray × Nat
  | 0 => ([], 0)
  | k + 1 => spStep s (spS s k) (k + 1)
def splitF (s : ByteArray) : List ByteArray := (spS s s.size).1
theorem spS_from (s : ByteArray) (k : Nat) : (spS s k).2 ≤ k := by
  induction k with
  | zero => exact Nat.le_refl _
  | succ k ih =>
    rw [spS, spStep]
    split
    · exact Nat.le_refl _
    · exact Nat.le_succ_of_le ih
theorem spS_len (s : ByteArray) (k : Nat) : (spS s k).1.length ≤ k := by
  induction k with
  | zero => exact Nat.le_refl _
  | succ k ih =>
    rw [spS, spStep]
    split
    · simp only [List.length_append, List.length_cons, List.length_nil]; omega
    · exact Nat.le_succ_of_le ih
theorem spS_one {s : ByteArray} {k : Nat} (hk : k < s.size) : (spS s k).1 = [] ↔ ∀ i, 1 ≤ i → i ≤ k → inB (byteAt s (i : Int)) = true := by
  induction k with
  | zero => constructor
            · intro _ i h1 h2; omega
            · intro _; rfl
  | succ k ih =>
    have ih := ih (by omega)
    rw [spS, spStep, lead_eq, decide_eq_false (by omega), Bool.false_or]
    cases hb : inB (byteAt s ((k + 1 : Nat) : Int)) with
    | false =>
      simp only [Bool.not_false, if_true]
      constructor
      · intro h; simp at h
      · intro h; have := h (k + 1) (by omega) (by omega); rw [hb] at this; cases this
    | true =>
      simp only [Bool.not_true, Bool.false_eq_true, if_false]
      rw [ih]
      constructor
      · intro h i h1 h2
        by_cases e : i = k + 1
        · subst e; exact hb
        · exact h i h1 (by omega)
      · intro h i h1 h2; exact h i h1 (by omega)
theorem splitF_one {s : ByteArray} (h : 0 < s.size) : (splitF s).length = 1 ↔ ∀ i, 1 ≤ i → i < s.size → inB (byteAt s (i : Int)) = true := by
  unfold splitF
  obtain ⟨k, hk⟩ : ∃ k, s.size = k + 1 := ⟨s.size - 1, by omega⟩
  rw [hk, spS, spStep, decide_eq_true (by omega), Bool.true_or, if_pos rfl, List.length_append]
  have h1 := spS_one (s := s) (k := k) (by omega)
  constructor
  · intro hl i h2 h3
    have : (spS s k).1 = [] := List.eq_nil_of_length_eq_zero (by simp only [List.length_cons, List.length_nil] at hl; omega)
    exact h1.1 this i h2 (by omega)
  · intro hq
    rw [h1.2 fun i h2 h3 => hq i h2 (by omega)]; rfl
theorem refProper_eq (s : ByteArray) : ((decide ((0 : Int) < (s.size : Int)) && leadB (byteAt s (0 : Int))) && decide (((splitF s).length : Int) = 1)) = properB s := by
  have hl := bs_len s
  unfold properB
  cases hb : bs s with
  | nil => rw [hb] at hl; simp at hl; rw [decide_eq_false (by omega)]; simp
  | cons b l =>
    rw [hb] at hl
    simp only [List.length_cons] at hl
    have e1 : byteAt s (0 : Int) = b.toNat := byteAt_eq (k := 0) (by rw [hb]; rfl)
    rw [decide_eq_true (by omega), Bool.true_and, e1, lead_eq]
    congr 1
    rw [Bool.eq_iff_iff, decide_eq_true_eq, List.all_eq_true]
    have h1 := splitF_one (s := s) (by omega)
    constructor
    · intro h x hx
      obtain ⟨i, hi, rfl⟩ := List.getElem_of_mem hx
      have := h1.1 (by omega) (i + 1) (by omega) (by omega)
      rw [byteAt_eq (k := i + 1) (b := l[i]) (by rw [hb, List.getElem?_cons_succ, List.getElem?_eq_getElem hi])] at this
      exact this
    · intro h
      have : (splitF s).length = 1 := h1.2 fun i h2 h3 => by
        match i, h2 with
        | j + 1, _ =>
          have hj : j < l.length := by omega
          rw [byteAt_eq (k := j + 1) (b := l[j]) (by rw [hb, List.getElem?_cons_succ, List.getElem?_eq_getElem hj])]
          exact h _ (List.getElem_mem hj)
      omega
/-! ### Letters -/
def foldU (b : UInt8) : UInt8 := if (decide ((65 : Int) ≤ (b.toNat : Int)) && decide ((b.toNat : Int) ≤ 90)) = true then UInt8.ofNat (IntKind.u8.wrap ((b.toNat : Int) + 32)).toNat else b
def upU (b : UInt8) : UInt8 := if (decide ((97 : Int) ≤ (b.toNat : Int)) && decide ((b.toNat : Int) ≤ 122)) = true then UInt8.ofNat (IntKind.u8.wrap ((b.toNat : Int) - 32)).toNat else b
def foldT (s : ByteArray) : ByteArray := ⟨((bs s).map foldU).toArray⟩
def upT (s : ByteArray) : ByteArray := ⟨((bs s).map upU).toArray⟩
theorem u8w (n : Int) : 0 ≤ IntKind.u8.wrap n ∧ IntKind.u8.wrap n ≤ 255 := by
  simp [IntKind.wrap, IntKind.signed, IntKind.bits]; omega
/-- those up to k turned, the others not yet -/
def mapTo (f : UInt8 → UInt8) (xs : List UInt8) (k : Nat) : List UInt8 := (xs.take k).map f ++ xs.drop k
theorem mapTo_len (f : UInt8 → UInt8) (xs : List UInt8) (k : Nat) : (mapTo f xs k).length = xs.length := by
  simp [mapTo]; omega
theorem mapTo_nth {f : UInt8 → UInt8} {xs : List UInt8} {k : Nat} (h : k < xs.length) : nth (mapTo f xs k) (k : Int) = nth xs (k : Int) := by
  unfold mapTo
  rw [drop_cons h]
  exact nth_app (by simp; omega)
theorem mapTo_hit {f : UInt8 → UInt8} {xs : List UInt8} {k : Nat} (h : k < xs.length) {v : UInt8} (hv : f (nth xs (k : Int)) = v) : mapTo f xs (k + 1) = (mapTo f xs k).set (k : Int).toNat v := by
  unfold mapTo
  rw [drop_cons h, take_snoc' h, Int.toNat_natCast, List.map_append]
  have hl : (List.map f (xs.take k)).length = k := by simp; omega
  rw [List.set_append_right _ _ (by omega), hl, Nat.sub_self]
  simp [hv]
theorem mapTo_miss {f : UInt8 → UInt8} {xs : List UInt8} {k : Nat} (h : k < xs.length) (hv : f (nth xs (k : Int)) = nth xs (k : Int)) : mapTo f xs (k + 1) = mapTo f xs k := by
  unfold mapTo
  rw [drop_cons h, take_snoc' h, List.map_append]
  simp [hv]
theorem mapTo_zero (f : UInt8 → UInt8) (xs : List UInt8) : mapTo f xs 0 = xs := by simp [mapTo]
theorem mapTo_all {f : UInt8 → UInt8} {xs : List UInt8} {k : Nat} (h : xs.length ≤ k) : mapTo f xs k = xs.map f := by
  unfold mapTo
  rw [List.take_of_length_le h, List.drop_of_length_le h, List.append_nil]
end B
end Go.Proofs.Ytocmchlhbniloaa
