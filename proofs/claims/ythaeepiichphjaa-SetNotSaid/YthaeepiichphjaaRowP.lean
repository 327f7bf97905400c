/-
  Rows of characters, by their places among some: what their Union comes to. No program.
-/
import Derived.Test.YthaeepiichphjaaRowW
import Derived.Test.YthaeepiichphjaaJoin
set_option linter.unusedSimpArgs false
set_option linter.unusedVariables false
namespace Go.Proofs.Ythaeepiichphjaa
namespace B
open Srt
theorem ltS_swo : Swo ltS := by
  constructor
  · intro x y h
    rw [← Bool.not_eq_true, ltS_iff]
    rw [ltS_iff] at h; omega
  · intro x y z h1 h2
    rw [← Bool.not_eq_true, ltS_iff] at h1 h2 ⊢
    omega
/-! ### Sorting, by what a map makes of each -/
section
variable {α β : Type} [Inhabited α] [Inhabited β]
omit [Inhabited α] [Inhabited β] in
theorem insRev_map {lt : α → α → Bool} {lt' : β → β → Bool} {f : α → β} {x : α} : ∀ {ys : List α}, (∀ y ∈ ys, lt x y = lt' (f x) (f y)) → (insRev lt x ys).map f = insRev lt' (f x) (ys.map f)
  | [], _ => rfl
  | y :: ys, h => by
    have h0 := h y (by simp)
    have ih := insRev_map (lt := lt) (lt' := lt') (f := f) (x := x) (ys := ys) fun z hz => h z (by simp [hz])
    simp only [insRev, List.map_cons]
    rw [← h0]
    split <;> simp [ih]
omit [Inhabited α] [Inhabited β] in
theorem ins_map {lt : α → α → Bool} {lt' : β → β → Bool} {f : α → β} {x : α} {ys : List α} (h : ∀ y ∈ ys, lt x y = lt' (f x) (f y)) : (ins lt x ys).map f = ins lt' (f x) (ys.map f) := by
  unfold ins
  rw [List.map_reverse, insRev_map (lt' := lt') (f := f) (fun y hy => h y (by simpa using hy)), List.map_reverse]
omit [Inhabited α] [Inhabited β] in
theorem isort_map {lt : α → α → Bool} {lt' : β → β → Bool} {f : α → β} {xs : List α} (h : ∀ x ∈ xs, ∀ y ∈ xs, lt x y = lt' (f x) (f y)) : (isort lt xs).map f = isort lt' (xs.map f) := by
  induction xs using snoc_ind with
  | h0 => rfl
  | h1 xs x ih =>
    rw [isort_snoc, List.map_append, List.map_cons, List.map_nil, isort_snoc, ← ih fun a ha b hb => h a (by simp [ha]) b (by simp [hb])]
    exact ins_map fun y hy => h x (by simp) y (by simp [((isort_perm (lt := lt) xs).mem_iff).1 hy])
omit [Inhabited α] [Inhabited β] in
theorem map_inj_on {f : α → β} : ∀ {xs ys : List α}, (∀ x ∈ xs, ∀ y ∈ ys, f x = f y → x = y) → xs.map f = ys.map f → xs = ys
  | [], [], _, _ => rfl
  | [], y :: ys, _, h => by simp at h
  | x :: xs, [], _, h => by simp at h
  | x :: xs, y :: ys, hi, h => by
    simp only [List.map_cons, List.cons.injEq] at h
    rw [hi x (by simp) y (by simp) h.1, map_inj_on (fun a ha b hb => hi a (by simp [ha]) b (by simp [hb])) h.2]
theorem nth_map {f : α → β} {xs : List α} {k : Nat} (h : k < xs.length) : nth (xs.map f) (k : Int) = f (nth xs (k : Int)) :=
  nth_of (by rw [List.getElem?_map, nth_lt h]; rfl)
end
/-- a row's ends among some texts -/
def In (S : List ByteArray) (p : Rw) : Prop := p.1 ∈ S ∧ p.2 ∈ S
def f2 (S : List ByteArray) (p : Rw) : Int × Int := (rk S p.1, rk S p.2)
theorem f2_inj {S : List ByteArray} {p q : Rw} (hp : In S p) (hq : In S q) (h : f2 S p = f2 S q) : p = q := by
  simp only [f2, Prod.mk.injEq] at h
  exact Prod.ext (rk_inj hp.1 hq.1 h.1) (rk_inj hp.2 hq.2 h.2)
theorem f2_lt {S : List ByteArray} {p q : Rw} (hp : In S p) (hq : In S q) : ltR p q = ltS (f2 S p) (f2 S q) := by
  rw [Bool.eq_iff_iff, ltR_iff, ltS_iff, rk_iff hp.1 hq.1, rk_iff hp.2 hq.2]
  constructor
  · rintro (h | ⟨e, h⟩)
    · exact .inl h
    · exact .inr ⟨by simp only [f2]; rw [e], h⟩
  · rintro (h | ⟨e, h⟩)
    · exact .inl h
    · exact .inr ⟨rk_inj hp.1 hq.1 e, h⟩
/-- rows that are some, with ends among S -/
def Ok (S : List ByteArray) (xs : List Rw) : Prop := ∀ p ∈ xs, rowB p = true ∧ In S p
theorem ok_le {S : List ByteArray} {p : Rw} (h : rowB p = true ∧ In S p) : (f2 S p).1 ≤ (f2 S p).2 := by
  have := h.1
  unfold rowB at this
  rw [Bool.and_eq_true] at this
  exact (rk_le h.2.1 h.2.2).1 this.2
theorem rk_max {S : List ByteArray} {x y : ByteArray} (hx : x ∈ S) (hy : y ∈ S) : rk S (maxT x y) = max (rk S x) (rk S y) := (maxT_mem hx hy).2
/-- the two joinings, side by side -/
theorem join_map {S : List ByteArray} (ys : List Rw) (hok : Ok S ys) (hs : Sorted ltS (ys.map (f2 S))) :
    (joinT ys).map (f2 S) = joinF (ys.map (f2 S)) ∧ ∀ l ∈ joinT ys, (∃ p ∈ ys, l.1 = p.1) ∧ ∃ p ∈ ys, l.2 = p.2 := by
  induction ys using snoc_ind with
  | h0 => exact ⟨rfl, fun l hl => by simp [joinT] at hl⟩
  | h1 ys q ih =>
    rw [List.map_append, List.map_cons, List.map_nil] at hs ⊢
    obtain ⟨hs1, _, hs2⟩ := List.pairwise_append.1 hs
    have hok1 : Ok S ys := fun p hp => hok p (by simp [hp])
    obtain ⟨i1, i2⟩ := ih hok1 hs1
    have hsp := joinF_spec (ys.map (f2 S)) hs1 (fun p hp => by obtain ⟨r, hr, rfl⟩ := List.mem_map.1 hp; exact ok_le (hok1 r hr))
    have hq := hok q (by simp)
    have hin : ∀ l ∈ joinT ys, In S l := fun l hl => by
      obtain ⟨⟨p, hp, e1⟩, r, hr, e2⟩ := i2 l hl
      exact ⟨e1 ▸ (hok1 p hp).2.1, e2 ▸ (hok1 r hr).2.2⟩
    rw [joinT_snoc, joinF_snoc, ← i1]
    cases hjt : joinT ys using snoc_ind with
    | h0 =>
      have e : stepT [] q = [q] := by simp [stepT, hitT]
      rw [e, List.map_nil, joinStep_nil]
      exact ⟨rfl, fun l hl => by simp at hl; subst hl; exact ⟨⟨l, by simp, rfl⟩, l, by simp, rfl⟩⟩
    | h1 A l =>
      rw [hjt] at i1 i2 hin
      have hl := hin l (by simp)
      have hn : nth (A ++ [l]) (((A ++ [l]).length : Int) - 1) = l := nth_app (A := A) (B := []) (by simp)
      have hle : (f2 S l).1 ≤ (f2 S q).1 := by
        obtain ⟨⟨p, hp, e⟩, _⟩ := i2 l (by simp)
        have := hs2 (f2 S p) (List.mem_map.2 ⟨p, hp, rfl⟩) (f2 S q) (by simp)
        rw [← Bool.not_eq_true, ltS_iff] at this
        have e' : (f2 S l).1 = (f2 S p).1 := by simp only [f2]; rw [e]
        omega
      have hll : (f2 S l).1 ≤ (f2 S l).2 := by
        have h3 := hsp.1.1
        rw [← i1] at h3
        exact h3 (f2 S l) (by simp)
      have hqq := ok_le hq
      have hhit : hitT (A ++ [l]) q = touchB (f2 S l) (f2 S q) := by
        unfold hitT
        rw [hn, decide_eq_true (by simp), Bool.true_and, Bool.eq_iff_iff, rk_le hq.2.1 hl.2, touchB_iff]
        show (f2 S q).1 ≤ (f2 S l).2 ↔ _
        omega
      rw [List.map_append, List.map_cons, List.map_nil, joinStep_snoc, stepT, hhit, hn, show (((A ++ [l]).length : Int) - 1).toNat = A.length by simp]
      split
      · refine ⟨?_, fun r hr => ?_⟩
        · simp [f2, rk_max hl.2 hq.2.2]
        · simp at hr
          rcases hr with hr | rfl
          · obtain ⟨⟨p, hp, e⟩, p', hp', e'⟩ := i2 r (by simp [hr])
            exact ⟨⟨p, by simp [hp], e⟩, p', by simp [hp'], e'⟩
          · obtain ⟨⟨p, hp, e⟩, p', hp', e'⟩ := i2 l (by simp)
            refine ⟨⟨p, by simp [hp], e⟩, ?_⟩
            unfold maxT
            split
            · exact ⟨q, by simp, rfl⟩
            · exact ⟨p', by simp [hp'], e'⟩
      · refine ⟨by simp, fun r hr => ?_⟩
        rcases List.mem_append.1 hr with hr | hr
        · obtain ⟨⟨p, hp, e⟩, p', hp', e'⟩ := i2 r hr
          exact ⟨⟨p, by simp [hp], e⟩, p', by simp [hp'], e'⟩
        · simp at hr; subst hr; exact ⟨⟨r, by simp, rfl⟩, r, by simp, rfl⟩
theorem union_spec {S : List ByteArray} {xs : List Rw} (h : Ok S (xs.filter rowB)) :
    Sep ((unionT xs).map (f2 S)) ∧ (∀ y, cov ((unionT xs).map (f2 S)) y ↔ cov ((xs.filter rowB).map (f2 S)) y) ∧ ∀ l ∈ unionT xs, (∃ p ∈ xs.filter rowB, l.1 = p.1) ∧ ∃ p ∈ xs.filter rowB, l.2 = p.2 := by
  have hp := isort_perm (lt := ltR) (xs.filter rowB)
  have hok : Ok S (isort ltR (xs.filter rowB)) := fun p hm => h p (hp.mem_iff.1 hm)
  have hm := isort_map (lt := ltR) (lt' := ltS) (f := f2 S) (xs := xs.filter rowB) fun x hx y hy => f2_lt (h x hx).2 (h y hy).2
  have hs : Sorted ltS ((isort ltR (xs.filter rowB)).map (f2 S)) := by rw [hm]; exact isort_sorted ltS_swo _
  obtain ⟨j1, j2⟩ := join_map _ hok hs
  have j3 := joinF_spec _ hs fun p hq => by obtain ⟨r, hr, rfl⟩ := List.mem_map.1 hq; exact ok_le (hok r hr)
  unfold unionT
  rw [j1]
  refine ⟨j3.1, fun y => (j3.2.1 y).trans ?_, fun l hl => ?_⟩
  · exact cov_mem (fun p => by rw [hm]; exact (isort_perm _).mem_iff) y
  · obtain ⟨⟨p, h1, e1⟩, q, h2, e2⟩ := j2 l hl
    exact ⟨⟨p, hp.mem_iff.1 h1, e1⟩, q, hp.mem_iff.1 h2, e2⟩
/-- the ends of some rows -/
def ends (xs : List Rw) : List ByteArray := xs.flatMap fun p => [p.1, p.2]
theorem ok_ends {S : List ByteArray} {xs : List Rw} (h : ∀ c ∈ ends xs, c ∈ S) : Ok S (xs.filter rowB) := fun p hp => by
  obtain ⟨h1, h2⟩ := List.mem_filter.1 hp
  exact ⟨h2, h _ (List.mem_flatMap.2 ⟨p, h1, by simp⟩), h _ (List.mem_flatMap.2 ⟨p, h1, by simp⟩)⟩
theorem union_in {S : List ByteArray} {xs : List Rw} (h : Ok S (xs.filter rowB)) : ∀ l ∈ unionT xs, In S l := fun l hl => by
  obtain ⟨⟨p, hp, e1⟩, r, hr, e2⟩ := (union_spec h).2.2 l hl
  exact ⟨e1 ▸ (h p hp).2.1, e2 ▸ (h r hr).2.2⟩
theorem rowB_iff {p : Rw} : rowB p = true ↔ (properB p.1 = true ∧ properB p.2 = true) ∧ leT p.1 p.2 = true := by
  unfold rowB; rw [Bool.and_eq_true, Bool.and_eq_true]
theorem union_ok {S : List ByteArray} {xs : List Rw} (h : Ok S (xs.filter rowB)) : Ok S (unionT xs) := fun l hl => by
  have hin := union_in h l hl
  obtain ⟨⟨p, hp, e1⟩, r, hr, e2⟩ := (union_spec h).2.2 l hl
  refine ⟨rowB_iff.2 ⟨⟨e1 ▸ (rowB_iff.1 (h p hp).1).1.1, e2 ▸ (rowB_iff.1 (h r hr).1).1.2⟩, ?_⟩, hin⟩
  exact (rk_le hin.1 hin.2).2 ((union_spec h).1.1 (f2 S l) (List.mem_map.2 ⟨l, hl, rfl⟩))
theorem union_filter (xs : List Rw) : (unionT xs).filter rowB = unionT xs :=
  List.filter_eq_self.2 fun l hl => (union_ok (ok_ends (S := ends xs) fun _ hc => hc) l hl).1
theorem union_same {xs ys : List Rw} (h : ∀ p, p ∈ xs.filter rowB ↔ p ∈ ys.filter rowB) : unionT xs = unionT ys := by
  have h1 : Ok (ends (xs ++ ys)) (xs.filter rowB) := ok_ends fun c hc => by unfold ends at *; rw [List.flatMap_append]; exact List.mem_append.2 (.inl hc)
  have h2 : Ok (ends (xs ++ ys)) (ys.filter rowB) := ok_ends fun c hc => by unfold ends at *; rw [List.flatMap_append]; exact List.mem_append.2 (.inr hc)
  refine map_inj_on (f := f2 (ends (xs ++ ys))) (fun a ha b hb e => f2_inj (union_in h1 a ha) (union_in h2 b hb) e) ?_
  refine sep_unique (union_spec h1).1 (union_spec h2).1 fun y => ((union_spec h1).2.1 y).trans (.trans ?_ ((union_spec h2).2.1 y).symm)
  refine cov_mem (fun p => ?_) y
  simp only [List.mem_map, h]
theorem union_self (xs : List Rw) : unionT (unionT xs) = unionT xs := by
  have h1 : Ok (ends xs) (xs.filter rowB) := ok_ends fun c hc => hc
  have h2 : Ok (ends xs) ((unionT xs).filter rowB) := by rw [union_filter]; exact union_ok h1
  refine map_inj_on (f := f2 (ends xs)) (fun a ha b hb e => f2_inj (union_in h2 a ha) (union_in h1 b hb) e) ?_
  refine sep_unique (union_spec h2).1 (union_spec h1).1 fun y => ((union_spec h2).2.1 y).trans ?_
  rw [union_filter]
theorem inR_cov {S : List ByteArray} {zs : List Rw} {c : ByteArray} (hc : c ∈ S) (h : ∀ p ∈ zs, In S p) : inR zs c = true ↔ cov (zs.map (f2 S)) (2 * rk S c) := by
  unfold inR cov
  rw [List.any_eq_true]
  simp only [List.mem_map, Bool.and_eq_true]
  constructor
  · rintro ⟨p, hp, h1, h2⟩
    have a := (rk_le (h p hp).1 hc).1 h1
    have b := (rk_le hc (h p hp).2).1 h2
    exact ⟨_, ⟨p, hp, rfl⟩, by simp only [f2]; omega, by simp only [f2]; omega⟩
  · rintro ⟨_, ⟨p, hp, rfl⟩, h1, h2⟩
    simp only [f2] at h1 h2
    exact ⟨p, hp, (rk_le (h p hp).1 hc).2 (by omega), (rk_le hc (h p hp).2).2 (by omega)⟩
theorem inR_union (xs : List Rw) (c : ByteArray) : inR (unionT xs) c = inR (xs.filter rowB) c := by
  have h1 : Ok (c :: ends xs) (xs.filter rowB) := ok_ends fun _ hc => List.mem_cons_of_mem _ hc
  rw [Bool.eq_iff_iff, inR_cov (S := c :: ends xs) (by simp) (union_in h1), inR_cov (S := c :: ends xs) (by simp) (fun p hp => (h1 p hp).2)]
  exact (union_spec h1).2.1 _
theorem hasF_union (xs : List Rw) (n f : Bool) (c : ByteArray) : hasF (unionT xs) n f c = hasF (xs.filter rowB) n f c := by
  unfold hasF; rw [inR_union, inR_union, inR_union]
theorem mayRow_union (xs : List Rw) : mayRow (unionT xs) = true := by
  have h1 : Ok (ends xs) (xs.filter rowB) := ok_ends fun _ hc => hc
  refine mayRow_yes (k := (unionT xs).length) (fun i hi => ?_) (Nat.le_refl _)
  have hm := nth_memL hi
  unfold badRow
  rw [(union_ok h1 _ hm).1, Bool.not_true, Bool.false_or]
  by_cases h0 : i = 0
  · subst h0; rfl
  · have hi' : i - 1 < (unionT xs).length := by omega
    rw [show (i : Int) - 1 = ((i - 1 : Nat) : Int) by omega]
    have hp := List.pairwise_iff_getElem.1 (union_spec h1).1.2 (i - 1) i (by simpa using hi') (by simpa using hi) (by omega)
    rw [List.getElem_map, List.getElem_map, ← nth_of (List.getElem?_eq_getElem hi), ← nth_of (List.getElem?_eq_getElem hi')] at hp
    simp only [f2] at hp
    have a := union_in h1 _ hm
    have b := union_in h1 _ (nth_memL hi')
    have : leT (nth (unionT xs) (i : Int)).1 (nth (unionT xs) ((i - 1 : Nat) : Int)).2 = false := by
      rw [← Bool.not_eq_true, rk_le a.1 b.2]; omega
    rw [this, Bool.and_false]
theorem much_Small {m n : Int} {xs : List Rw} (h : muchR m n xs = false) (hn : n ≤ 1000000) : Small xs ∧ (xs.length : Int) ≤ m := by
  unfold muchR at h
  rw [Bool.or_eq_false_iff, decide_eq_false_iff_not] at h
  exact ⟨fun r hr => by have := much_small h.2 r hr; omega, by omega⟩
theorem rowB_ba : rowB ((⟨#[98]⟩ : ByteArray), (⟨#[97]⟩ : ByteArray)) = false := by decide +kernel
theorem rowB_nil : rowB ((⟨#[]⟩ : ByteArray), (⟨#[]⟩ : ByteArray)) = false := by decide +kernel
/-- the rows from the last, each with what is none and itself again -/
def backR (xs : List Rw) : List Rw := xs.reverse.flatMap fun r => [r, (⟨#[98]⟩, ⟨#[97]⟩), r, (⟨#[]⟩, ⟨#[]⟩)]
theorem backR_mem {xs : List Rw} {p : Rw} : p ∈ backR xs → p ∈ xs ∨ p = (⟨#[98]⟩, ⟨#[97]⟩) ∨ p = (⟨#[]⟩, ⟨#[]⟩) := by
  unfold backR
  rw [List.mem_flatMap]
  rintro ⟨r, hr, hp⟩
  rw [List.mem_reverse] at hr
  simp only [List.mem_cons, List.not_mem_nil, or_false] at hp
  rcases hp with rfl | rfl | rfl | rfl
  · exact .inl hr
  · exact .inr (.inl rfl)
  · exact .inl hr
  · exact .inr (.inr rfl)
theorem backR_union (xs : List Rw) : unionT xs = unionT (backR xs) := union_same fun p => by
  rw [List.mem_filter, List.mem_filter]
  constructor
  · rintro ⟨h1, h2⟩
    exact ⟨List.mem_flatMap.2 ⟨p, List.mem_reverse.2 h1, by simp⟩, h2⟩
  · rintro ⟨h1, h2⟩
    rcases backR_mem h1 with h | rfl | rfl
    · exact ⟨h, h2⟩
    · rw [rowB_ba] at h2; cases h2
    · rw [rowB_nil] at h2; cases h2
theorem backR_small {xs : List Rw} (h : Small xs) : Small (backR xs) := fun p hp => by
  rcases backR_mem hp with h' | rfl | rfl
  · exact h p h'
  · decide
  · decide
theorem backR_len (xs : List Rw) : (backR xs).length = 4 * xs.length := by
  induction xs with
  | nil => rfl
  | cons a l ih =>
    have e : backR (a :: l) = backR l ++ [a, (⟨#[98]⟩, ⟨#[97]⟩), a, (⟨#[]⟩, ⟨#[]⟩)] := by unfold backR; rw [List.reverse_cons, List.flatMap_append]; simp
    rw [e, List.length_append, ih]; simp; omega
theorem backR_step {xs : List Rw} {k : Nat} (h : k < xs.length) : backR (xs.drop k) = backR (xs.drop (k + 1)) ++ [nth xs (k : Int), (⟨#[98]⟩, ⟨#[97]⟩), nth xs (k : Int), (⟨#[]⟩, ⟨#[]⟩)] := by
  unfold backR
  rw [drop_cons h, List.reverse_cons, List.flatMap_append]; simp
theorem backR_le {xs : List Rw} {k : Nat} : (backR (xs.drop k)).length ≤ 4 * xs.length := by rw [backR_len, List.length_drop]; omega
theorem union_small {xs : List Rw} (h : Small xs) : Small (unionT xs) := fun l hl => by
  obtain ⟨⟨p, hp, e1⟩, r, hr, e2⟩ := (union_spec (S := ends xs) (ok_ends fun _ hc => hc)).2.2 l hl
  rw [e1, e2]
  exact ⟨(h p (List.mem_filter.1 hp).1).1, (h r (List.mem_filter.1 hr).1).2⟩
theorem union_len (xs : List Rw) : (unionT xs).length ≤ xs.length := Nat.le_trans (joinT_le _) (sort_filter_le xs)
theorem filter_small {xs : List Rw} (h : Small xs) : Small (xs.filter rowB) := fun l hl => h l (List.mem_filter.1 hl).1
theorem named_small (n : Int) : Small (namedF n) := by unfold namedF; split <;> (try split) <;> (try split) <;> (unfold Small; decide)
theorem named_len (n : Int) : (namedF n).length ≤ 4 := by unfold namedF; split <;> (try split) <;> (try split) <;> decide
theorem named_may (n : Int) : mayRow (namedF n) = true := by unfold namedF; split <;> (try split) <;> (try split) <;> decide +kernel
theorem low_range (x m : Int) (h : 0 < m) (h2 : m ≤ 9223372036854775807) : 0 ≤ lowF x m ∧ lowF x m < m := by
  have e : IntKind.u64.wrap m = m := by simp [IntKind.wrap, IntKind.signed, IntKind.bits]; omega
  have hx : 0 ≤ IntKind.u64.wrap x := by simp [IntKind.wrap, IntKind.signed, IntKind.bits]; omega
  unfold lowF
  rw [e, Int.tmod_eq_emod_of_nonneg hx]
  have h3 := Int.emod_nonneg (IntKind.u64.wrap x) (show m ≠ 0 by omega)
  have h4 := Int.emod_lt_of_pos (IntKind.u64.wrap x) h
  rw [IntWalk.i64_in _ (by omega)]
  omega
theorem u8_in {n : Int} (h : 0 ≤ n) (h2 : n ≤ 255) : IntKind.u8.wrap n = n := by simp [IntKind.wrap, IntKind.signed, IntKind.bits]; omega
def smallS (k : Nat) : ByteArray := ⟨#[UInt8.ofNat (97 + k)]⟩
def bigS (k : Nat) : ByteArray := ⟨#[UInt8.ofNat (65 + k)]⟩
theorem small_eq {k : Nat} (h : k < 26) : (⟨([UInt8.ofNat (IntKind.u8.wrap ((97 : Int) + (k : Int))).toNat] : List UInt8).toArray⟩ : ByteArray) = smallS k := by
  rw [u8_in (by omega) (by omega), show ((97 : Int) + (k : Int)).toNat = 97 + k by omega]; rfl
theorem big_eq {k : Nat} (h : k < 26) : (⟨([UInt8.ofNat (IntKind.u8.wrap ((65 : Int) + (k : Int))).toNat] : List UInt8).toArray⟩ : ByteArray) = bigS k := by
  rw [u8_in (by omega) (by omega), show ((65 : Int) + (k : Int)).toNat = 65 + k by omega]; rfl
theorem letter_all : ∀ k, k < 26 → foldT (smallS k) = smallS k ∧ foldT (bigS k) = smallS k ∧ upT (smallS k) = bigS k ∧ upT (bigS k) = bigS k := by decide +kernel
/-! ### What the statements ask for -/
theorem hasF_not (xs : List Rw) (f : Bool) (c : ByteArray) : decide (hasF xs true f c = hasF xs false f c) = false := by
  unfold hasF
  generalize (if f = true then (inR xs c || inR xs (foldT c)) || inR xs (upT c) else inR xs c) = b
  cases b <;> rfl
theorem hasF_plain (xs : List Rw) (c : ByteArray) : hasF xs false false c = inR xs c := by unfold hasF; cases inR xs c <;> rfl
theorem hasF_fold (xs : List Rw) (c : ByteArray) : hasF xs false true c = ((inR xs c || inR xs (foldT c)) || inR xs (upT c)) := by
  unfold hasF; rw [if_pos rfl]
  generalize ((inR xs c || inR xs (foldT c)) || inR xs (upT c)) = b
  cases b <;> rfl
theorem hasF_less (xs : List Rw) (c : ByteArray) : (hasF xs false false c && !hasF xs false true c) = false := by
  rw [hasF_plain, hasF_fold]; cases inR xs c <;> simp
theorem hasF_still {xs : List Rw} {c : ByteArray} (h1 : foldT c = c) (h2 : upT c = c) (f : Bool) : hasF xs false f c = hasF xs false (!f) c := by
  cases f
  · rw [hasF_plain, Bool.not_false, hasF_fold, h1, h2]; simp
  · rw [hasF_fold, h1, h2, Bool.not_true, hasF_plain]; simp
theorem still (xs : List Rw) (f : Bool) (s : ByteArray) : ((!eqT (foldT s) s || !eqT (upT s) s) || decide (hasF xs false f s = hasF xs false (!f) s)) = true := by
  cases h1 : eqT (foldT s) s with
  | false => simp
  | true =>
    cases h2 : eqT (upT s) s with
    | false => simp
    | true => rw [hasF_still (eqT_iff.1 h1) (eqT_iff.1 h2) f]; simp
theorem letters (xs : List Rw) {k : Nat} (h : k < 26) : hasF xs false true (smallS k) = hasF xs false true (bigS k) ∧ hasF xs false true (smallS k) = (hasF xs false false (smallS k) || hasF xs false false (bigS k)) := by
  obtain ⟨h1, h2, h3, h4⟩ := letter_all k h
  rw [hasF_fold, hasF_fold, hasF_plain, hasF_plain, h1, h2, h3, h4]
  cases inR xs (smallS k) <;> cases inR xs (bigS k) <;> exact ⟨rfl, rfl⟩
end B
end Go.Proofs.Ythaeepiichphjaa
