/-
  Walks, printed by a program (gen.py): SpanL.
-/
import Derived.Test.YtgcpgdhadeekcaaSpanP
import Derived.Test.YtgcpgdhadeekcaaBase7
set_option linter.unusedSimpArgs false
set_option linter.unusedVariables false
namespace Go.Proofs.Ytgcpgdhadeekcaa
namespace B
open Go.RowKit
open Srt
def twice (xs : List (Int × Int)) (n : Nat) : List (Int × Int) := (xs.drop n).reverse.flatMap fun p => [p, p]
theorem twice_nil {xs : List (Int × Int)} : twice xs xs.length = [] := by simp [twice]
theorem twice_succ {xs : List (Int × Int)} {n : Nat} (h : 0 < n) (hn : n ≤ xs.length) : twice xs (n - 1) = twice xs n ++ [nth xs ((n : Int) - 1), nth xs ((n : Int) - 1)] := by
  unfold twice
  rw [drop_cons (show n - 1 < xs.length by omega), show n - 1 + 1 = n by omega, show ((n - 1 : Nat) : Int) = (n : Int) - 1 by omega]
  simp
theorem twice_len (xs : List (Int × Int)) (n : Nat) : (twice xs n).length ≤ 2 * xs.length := by
  have : (twice xs n).length = 2 * (xs.drop n).length := by
    unfold twice
    generalize xs.drop n = ys
    induction ys with
    | nil => rfl
    | cons y ys ih => simp only [List.reverse_cons, List.flatMap_append, List.length_append, ih, List.length_cons]; simp; omega
  rw [this, List.length_drop]; omega
theorem twice_cov (xs : List (Int × Int)) (y : Int) : cov (twice xs 0) y ↔ cov xs y := cov_mem (fun p => by simp [twice]) y
theorem lowF_range (x m : Int) (h : 0 < m) (h2 : m ≤ 9223372036854775807) : 0 ≤ lowF x m ∧ lowF x m < m := by
  have e : IntKind.u64.wrap m = m := by simp [IntKind.wrap, IntKind.signed, IntKind.bits]; omega
  have hx : 0 ≤ IntKind.u64.wrap x := by simp [IntKind.wrap, IntKind.signed, IntKind.bits]; omega
  unfold lowF
  rw [e, Int.tmod_eq_emod_of_nonneg hx]
  have h3 := Int.emod_nonneg (IntKind.u64.wrap x) (show m ≠ 0 by omega)
  have h4 := Int.emod_lt_of_pos (IntKind.u64.wrap x) h
  rw [IntWalk.i64_in _ (by omega)]
  omega
theorem turn_perm (xs : List (Int × Int)) (k : Nat) (h : k ≤ xs.length) : (([] ++ (xs.drop k).take (xs.length - k)) ++ (xs.drop 0).take (k - 0)).Perm xs := by
  rw [List.nil_append, List.take_of_length_le (l := xs.drop k) (by simp), List.drop_zero, Nat.sub_zero]
  exact List.perm_append_comm.trans (by rw [List.take_append_drop])
def allB (xs : List (Int × Int)) (i j : Nat) : Bool := (List.range j).all fun j' => apartF (isort ltS [nth xs (j' : Int), nth xs (i : Int)])
def allA (xs : List (Int × Int)) (i : Nat) : Bool := (List.range i).all fun i' => allB xs i' i'
theorem allB_succ (xs : List (Int × Int)) (i j : Nat) : allB xs i (j + 1) = (allB xs i j && apartF (isort ltS [nth xs (j : Int), nth xs (i : Int)])) := by
  simp [allB, List.range_succ]
theorem allA_succ (xs : List (Int × Int)) (i : Nat) : allA xs (i + 1) = (allA xs i && allB xs i i) := by
  simp [allA, List.range_succ]
theorem apart_bad {xs : List (Int × Int)} {k : Nat} (h : k < xs.length) (hb : decide ((nth xs (k : Int)).2 < (nth xs (k : Int)).1) = true) : apartF (isort ltS xs) = false := by
  rw [← Bool.not_eq_true, apart_iff]
  rintro ⟨a, _⟩
  have := a (nth xs (k : Int)) (List.mem_of_getElem? (nth_lt h))
  simp at hb; omega
theorem apart_allA {xs : List (Int × Int)} {k : Nat} (hk : xs.length ≤ k) (h1 : ∀ j, j < k → (nth xs (j : Int)).1 ≤ (nth xs (j : Int)).2) (hk' : k ≤ xs.length) : apartF (isort ltS xs) = allA xs k := by
  rw [Bool.eq_iff_iff, apart_iff]
  unfold allA allB
  simp only [List.all_eq_true, List.mem_range]
  have e : ∀ {i} (hi : i < xs.length), nth xs (i : Int) = xs[i] := fun hi => nth_of (List.getElem?_eq_getElem hi)
  constructor
  · rintro ⟨a, b⟩ i hi j hj
    rw [apart_pair]
    refine ⟨h1 j (by omega), h1 i hi, ?_⟩
    rw [e (show j < xs.length by omega), e (show i < xs.length by omega)]
    exact List.pairwise_iff_getElem.1 b j i (by omega) (by omega) hj
  · intro h
    refine ⟨fun p hp => ?_, List.pairwise_iff_getElem.2 fun j i hj hi hij => ?_⟩
    · obtain ⟨i, hi, e'⟩ := List.getElem_of_mem hp
      have := h1 i (by omega)
      rw [e hi, e'] at this
      exact this
    · have := (apart_pair _ _).1 (h i (by omega) j hij)
      rw [e hj, e hi] at this
      exact this.2.2
theorem any_snoc {xs : List (Int × Int)} {f : Int × Int → Bool} {k : Nat} (h : k < xs.length) : (xs.take (k + 1)).any f = ((xs.take k).any f || f (nth xs (k : Int))) := by
  rw [take_snoc h]; simp
theorem unionF_le (xs : List (Int × Int)) : (unionF xs).length ≤ xs.length := Nat.le_trans (joinF_le _) (sort_filter_le xs)
theorem union_no_bad {xs : List (Int × Int)} {j : Nat} (h : j < (unionF xs).length) : (decide ((nth (unionF xs) (j : Int)).2 < (nth (unionF xs) (j : Int)).1) || (decide ((0 : Int) < (j : Int)) && decide ((nth (unionF xs) (j : Int)).1 ≤ (nth (unionF xs) ((j : Int) - 1)).2))) = false := by
  obtain ⟨⟨a, b⟩, _⟩ := unionF_spec xs
  have e : ∀ {i} (hi : i < (unionF xs).length), nth (unionF xs) (i : Int) = (unionF xs)[i] := fun hi => nth_of (List.getElem?_eq_getElem hi)
  rw [Bool.or_eq_false_iff]
  constructor
  · rw [e h]; exact decide_eq_false (by have := a _ (List.getElem_mem h); omega)
  · by_cases h0 : 0 < j
    · have := List.pairwise_iff_getElem.1 b (j - 1) j (by omega) h (by omega)
      rw [show (j : Int) - 1 = ((j - 1 : Nat) : Int) by omega, e h, e (show j - 1 < (unionF xs).length by omega), Bool.and_eq_false_iff]
      right; exact decide_eq_false (by omega)
    · rw [decide_eq_false (by omega)]; rfl
theorem any_cov (xs : List (Int × Int)) (n : Int) : xs.any (fun p => hasB p n) = true ↔ cov xs (2 * n) := by
  rw [List.any_eq_true]
  constructor
  · rintro ⟨p, hp, h⟩; simp [hasB] at h; exact ⟨p, hp, by omega, by omega⟩
  · rintro ⟨p, hp, h1, h2⟩; exact ⟨p, hp, by simp [hasB]; omega⟩
theorem union_any (xs : List (Int × Int)) (n : Int) : (unionF xs).any (fun p => hasB p n) = xs.any (fun p => hasB p n) := by
  rw [Bool.eq_iff_iff, any_cov, any_cov, (unionF_spec xs).2]
theorem agree_1 {p q : Int × Int} (h1 : p.1 ≤ p.2) (h2 : q.1 ≤ q.2) : (((!(touchB p q == (hasB p q.1 || hasB q p.1)) || (overlapB p q && !(hasB p q.1 || hasB q p.1))) || !(touchB p q == touchB q p)) || !(overlapB p q == overlapB q p)) = false := by
  have hA : (hasB p q.1 || hasB q p.1) = touchB p q := by rw [Bool.eq_iff_iff]; simp [touchB, hasB]; omega
  have hB : touchB q p = touchB p q := by rw [Bool.eq_iff_iff]; simp [touchB]; omega
  have hC : overlapB q p = overlapB p q := by rw [Bool.eq_iff_iff]; simp [overlapB]; omega
  have hD : overlapB p q = true → touchB p q = true := by simp [touchB, overlapB]; omega
  rw [hA, hB, hC]
  cases ht : touchB p q <;> cases ho : overlapB p q <;> simp_all
theorem agree_2 (p q : Int × Int) (n : Int) : (((withinB p q && hasB p n) && !hasB q n) || ((withinB p q && decide (p.1 < p.2)) && !overlapB p q)) = false := by
  rw [← Bool.not_eq_true]
  simp [withinB, hasB, overlapB]
  omega
def dealt (b : Bool) (xs : List (Int × Int)) (ds : List Bool) (k : Nat) : List (Int × Int) := ((List.range k).filter fun i : Nat => (decide ((i : Int) < (ds.length : Int)) && nth ds (i : Int)) == b).map fun i : Nat => nth xs (i : Int)
theorem dealt_in {b : Bool} {xs : List (Int × Int)} {ds : List Bool} {k : Nat} (h : (decide ((k : Int) < (ds.length : Int)) && nth ds (k : Int)) = b) : dealt b xs ds (k + 1) = dealt b xs ds k ++ [nth xs (k : Int)] := by
  unfold dealt
  rw [List.range_succ, List.filter_append, List.map_append, List.filter_cons, if_pos (by rw [h]; simp)]
  rfl
theorem dealt_out {b c : Bool} {xs : List (Int × Int)} {ds : List Bool} {k : Nat} (h : (decide ((k : Int) < (ds.length : Int)) && nth ds (k : Int)) = c) (hne : c ≠ b) : dealt b xs ds (k + 1) = dealt b xs ds k := by
  unfold dealt
  rw [List.range_succ, List.filter_append, List.filter_cons, if_neg (by rw [h]; simpa using hne), List.filter_nil, List.append_nil]
theorem dealt_le (b : Bool) (xs : List (Int × Int)) (ds : List Bool) (k : Nat) : (dealt b xs ds k).length ≤ k := by
  unfold dealt
  rw [List.length_map]
  have := List.length_filter_le (fun i : Nat => (decide ((i : Int) < (ds.length : Int)) && nth ds (i : Int)) == b) (List.range k)
  simpa using this
theorem dealt_cov {xs : List (Int × Int)} {ds : List Bool} {k : Nat} (h : k = xs.length) (y : Int) : cov (unionF (dealt true xs ds k) ++ unionF (dealt false xs ds k)) y ↔ cov xs y := by
  rw [cov_append, (unionF_spec _).2, (unionF_spec _).2, ← cov_append]
  refine cov_mem (fun p => ?_) y
  subst h
  simp only [List.mem_append, dealt, List.mem_map, List.mem_filter, List.mem_range]
  constructor
  · rintro (⟨i, ⟨hi, _⟩, rfl⟩ | ⟨i, ⟨hi, _⟩, rfl⟩)
    · exact List.mem_of_getElem? (nth_lt hi)
    · exact List.mem_of_getElem? (nth_lt hi)
  · intro hp
    obtain ⟨i, hi, e⟩ := List.getElem_of_mem hp
    have e2 : nth xs (i : Int) = p := nth_of (by rw [List.getElem?_eq_getElem hi, e])
    cases hb : (decide ((i : Int) < (ds.length : Int)) && nth ds (i : Int)) with
    | true => exact .inl ⟨i, ⟨hi, by rw [hb]; rfl⟩, e2⟩
    | false => exact .inr ⟨i, ⟨hi, by rw [hb]; rfl⟩, e2⟩
set_option maxRecDepth 100000 in
theorem unionTells_c (v : Value) (xs : List (Int × Int)) (w : World) (hS : SlT SpanE w v xs) : Calls Try.prog 3 #[v] w (fun e w' => e = .returned (.bool (true)) ∧ Ext none' w w') := by
  refine enter (n := 15) Try.func3 rfl rfl (Nat.le_of_ble_eq_true rfl) ?_
  intro a0 τ0 ha st0
  have e0 : get a0 0 = v := ha 0 _ rfl
  clear ha
  have hle := hS.le
  refine wp_seq ?_
  refine region_St (bf := [0]) (sp := [
      (det (Nw w) 2 (.bool (false)))])
    [] mixed st0 (by kernel_rfl) trivial
    ⟨Ob.det rfl rfl rfl (fun _ a_ _ _ c => r_assign rfl rfl),
     trivial⟩ ?_
  intro a1 w1 τ1 st1 f1
  replace e0 := f1.old e0 (by kernel_rfl)
  have e2 : get a1 2 = (.bool (false)) := f1.v 0 rfl
  clear f1
  show Code.wp _ _ _ a1 w1
  refine wp_seq ?_
  refine wp_seq ?_
  refine region_St (bf := [0, 1, 3]) (sp := [
      (det (Nw w) 3 v),
        (det (Nw w) 4 (.int .i64 ((xs.length : Int)))),
        (det (Nw w) 5 (.bool (decide (40 < (xs.length : Int)))))])
    [] mixed st1 (by kernel_rfl) trivial
    ⟨Ob.det rfl rfl rfl (fun _ a_ _ _ c => r_move rfl (c.eo e0 (by kernel_rfl))),
       Ob.det rfl rfl rfl (fun _ a_ _ _ c => r_len rfl Try.underlying22 (c.ev 0 rfl rfl) hS.sl),
       Ob.det rfl rfl rfl (fun _ a_ _ _ c => r_gtr rfl (c.ev 1 rfl rfl) rfl),
     trivial⟩ ?_
  intro a2 w2 τ2 st2 f2
  replace e0 := f2.old e0 (by kernel_rfl)
  replace e2 := f2.old e2 (by kernel_rfl)
  have e5 : get a2 5 = (.bool (decide (40 < (xs.length : Int)))) := f2.v 2 rfl
  clear f2
  show Code.wp _ _ _ a2 w2
  refine wp_cond_split (t := decide (40 < (xs.length : Int))) e5 (fun hc1 => ?_) (fun hc1 => ?_)
  · try simp only [Bool.and_eq_true, Bool.or_eq_true, decide_eq_true_eq, decide_eq_false_iff_not, Bool.not_eq_true', Bool.and_eq_false_iff, Bool.or_eq_false_iff, Bool.not_eq_false', Int.not_lt, Int.not_le, beq_iff_eq, spanB] at hc1
    refine wp_seq ?_
    refine region_St (bf := [0, 1]) (sp := [
        (det (Nw w) 6 (.bool (true))),
            (det (Nw w) 2 (.bool (true)))])
      [] mixed st2 (by kernel_rfl) trivial
      ⟨Ob.call rfl rfl rfl (fun _ a_ _ _ c => ⟨_, _, (e_call0 rfl rfl Try.call11), awake_c _⟩),
           Ob.det rfl rfl rfl (fun _ a_ _ _ c => r_assign rfl (c.ev 0 rfl rfl)),
       trivial⟩ ?_
    intro a3 w3 τ3 st3 f3
    replace e0 := f3.old e0 (by kernel_rfl)
    have e2 : get a3 2 = (.bool (true)) := f3.v 1 rfl
    replace e5 := f3.old e5 (by kernel_rfl)
    clear f3
    show Code.wp _ _ _ a3 w3
    refine wp_ret ?_
    repeat (first | with_reducible refine then_ret ?_ | with_reducible refine block_ret ?_)
    refine ret1 (fn := Try.f3) rfl st3.defers e2 ?_
    exact ⟨rfl, st3.ext0⟩
  · try simp only [Bool.and_eq_true, Bool.or_eq_true, decide_eq_true_eq, decide_eq_false_iff_not, Bool.not_eq_true', Bool.and_eq_false_iff, Bool.or_eq_false_iff, Bool.not_eq_false', Int.not_lt, Int.not_le, beq_iff_eq, spanB] at hc1
    refine wp_skip ?_
    show Code.wp _ _ _ a2 w2
    refine wp_seq ?_
    refine region_St (bf := [0, 1, 0, 7, 15, 31, 63, 127, 255]) (sp := [
        (det (Nw w) 7 v),
            (own SpanE 29 (Nw w) 0 8 (unionF xs)),
            (det (Nw w) 9 v),
            (own SpanE 29 (Nw w) 1 10 (unionR xs)),
            (det (Nw w) 11 (.bool (decide (unionF xs = unionR xs)))),
            (det (Nw w) 12 (.bool (decide (unionF xs = unionR xs)))),
            (gdet (Nw w) 13 ((decide (unionF xs = unionR xs)) = true) (.bool (true))),
            (det (Nw w) 14 (.bool ((decide (unionF xs = unionR xs)) && true))),
            (det (Nw w) 2 (.bool ((decide (unionF xs = unionR xs)) && true)))])
      [] mixed st2 (by kernel_rfl) trivial
      ⟨Ob.det rfl rfl rfl (fun _ a_ _ _ c => r_move rfl (c.eo e0 (by kernel_rfl))),
           Ob.callOwn rfl rfl rfl (fun _ a_ _ _ c => ⟨_, _, (e_call1 rfl rfl Try.call13 (c.ev 0 rfl rfl)), union_c v xs _ (hS.at (st2.ext.trans c.J.ext)) (by omega)⟩),
           Ob.det rfl rfl rfl (fun _ a_ _ _ c => r_move rfl (c.eo e0 (by kernel_rfl))),
           Ob.callOwn rfl rfl rfl (fun _ a_ _ _ c => ⟨_, _, (e_call1 rfl rfl Try.call14 (c.ev 2 rfl rfl)), refUnion_c v xs _ (hS.at (st2.ext.trans c.J.ext)) (by omega)⟩),
           Ob.call rfl rfl rfl (fun _ a_ _ _ c => ⟨_, _, (e_call2 rfl rfl Try.call12 (eval_tmp _ 8) (eval_tmp _ 10)), spans_c _ _ (unionF xs) (unionR xs) _ (c.rown 1 rfl rfl (by kernel_rfl)).1.sl (c.rown 3 rfl rfl (by kernel_rfl)).1.sl⟩),
           Ob.det rfl rfl rfl (fun _ a_ _ _ c => r_move rfl (c.ev 4 rfl rfl)),
           Ob.gcall rfl rfl rfl rfl (gi := 5) (tg := 12) rfl rfl Iff.rfl (fun _ a_ _ _ c hpc => ⟨_, _, (e_call0 rfl rfl Try.call11), awake_c _⟩),
           Ob.det rfl rfl rfl (fun _ a_ _ _ c => r_and rfl (c.ev 5 rfl rfl) (fun h => (c.eg 6 rfl rfl h))),
           Ob.det rfl rfl rfl (fun _ a_ _ _ c => r_assign rfl (c.ev 7 rfl rfl)),
       trivial⟩ ?_
    intro a4 w4 τ4 st4 f4
    obtain ⟨b4x8, e8⟩ : ∃ b, get a4 8 = b := ⟨_, rfl⟩
    obtain ⟨b4x10, e10⟩ : ∃ b, get a4 10 = b := ⟨_, rfl⟩
    replace e0 := f4.old e0 (by kernel_rfl)
    have e2 : get a4 2 = (.bool ((decide (unionF xs = unionR xs)) && true)) := f4.v 8 rfl
    replace e5 := f4.old e5 (by kernel_rfl)
    have r0 : ownR SpanE 29 (unionF xs) (τ4 0) b4x8 w4 := f4.rown 1 rfl rfl e8
    have r1 : ownR SpanE 29 (unionR xs) (τ4 1) b4x10 w4 := f4.rown 3 rfl rfl e10
    clear f4
    show Code.wp _ _ _ a4 w4
    refine wp_ret ?_
    repeat (first | with_reducible refine then_ret ?_ | with_reducible refine block_ret ?_)
    refine ret1 (fn := Try.f3) rfl st4.defers e2 ?_
    exact ⟨congrArg _ (congrArg _ (show ((decide (unionF xs = unionR xs)) && true) = true from by rw [unionR_eq]; simp)), st4.ext0⟩

set_option maxRecDepth 100000 in
theorem unionOrder_c (v : Value) (xs : List (Int × Int)) (w : World) (hS : SlT SpanE w v xs) : Calls Try.prog 5 #[v] w (fun e w' => e = .returned (.bool (true)) ∧ Ext none' w w') := by
  refine enter (n := 35) Try.func5 rfl rfl (Nat.le_of_ble_eq_true rfl) ?_
  intro a0 τ0 ha st0
  have e0 : get a0 0 = v := ha 0 _ rfl
  clear ha
  have hle := hS.le
  refine wp_seq ?_
  refine region_St (bf := [0]) (sp := [
      (det (Nw w) 2 (.bool (false)))])
    [] mixed st0 (by kernel_rfl) trivial
    ⟨Ob.det rfl rfl rfl (fun _ a_ _ _ c => r_assign rfl rfl),
     trivial⟩ ?_
  intro a1 w1 τ1 st1 f1
  replace e0 := f1.old e0 (by kernel_rfl)
  have e2 : get a1 2 = (.bool (false)) := f1.v 0 rfl
  clear f1
  show Code.wp _ _ _ a1 w1
  refine wp_seq ?_
  refine wp_seq ?_
  refine region_St (bf := [0, 1, 3]) (sp := [
      (det (Nw w) 5 v),
        (det (Nw w) 6 (.int .i64 ((xs.length : Int)))),
        (det (Nw w) 7 (.bool (decide (30 < (xs.length : Int)))))])
    [] mixed st1 (by kernel_rfl) trivial
    ⟨Ob.det rfl rfl rfl (fun _ a_ _ _ c => r_move rfl (c.eo e0 (by kernel_rfl))),
       Ob.det rfl rfl rfl (fun _ a_ _ _ c => r_len rfl Try.underlying22 (c.ev 0 rfl rfl) hS.sl),
       Ob.det rfl rfl rfl (fun _ a_ _ _ c => r_gtr rfl (c.ev 1 rfl rfl) rfl),
     trivial⟩ ?_
  intro a2 w2 τ2 st2 f2
  replace e0 := f2.old e0 (by kernel_rfl)
  replace e2 := f2.old e2 (by kernel_rfl)
  have e7 : get a2 7 = (.bool (decide (30 < (xs.length : Int)))) := f2.v 2 rfl
  clear f2
  show Code.wp _ _ _ a2 w2
  refine wp_cond_split (t := decide (30 < (xs.length : Int))) e7 (fun hc1 => ?_) (fun hc1 => ?_)
  · try simp only [Bool.and_eq_true, Bool.or_eq_true, decide_eq_true_eq, decide_eq_false_iff_not, Bool.not_eq_true', Bool.and_eq_false_iff, Bool.or_eq_false_iff, Bool.not_eq_false', Int.not_lt, Int.not_le, beq_iff_eq, spanB] at hc1
    refine wp_seq ?_
    refine region_St (bf := [0, 1]) (sp := [
        (det (Nw w) 8 (.bool (true))),
            (det (Nw w) 2 (.bool (true)))])
      [] mixed st2 (by kernel_rfl) trivial
      ⟨Ob.call rfl rfl rfl (fun _ a_ _ _ c => ⟨_, _, (e_call0 rfl rfl Try.call11), awake_c _⟩),
           Ob.det rfl rfl rfl (fun _ a_ _ _ c => r_assign rfl (c.ev 0 rfl rfl)),
       trivial⟩ ?_
    intro a3 w3 τ3 st3 f3
    replace e0 := f3.old e0 (by kernel_rfl)
    have e2 : get a3 2 = (.bool (true)) := f3.v 1 rfl
    replace e7 := f3.old e7 (by kernel_rfl)
    clear f3
    show Code.wp _ _ _ a3 w3
    refine wp_ret ?_
    repeat (first | with_reducible refine then_ret ?_ | with_reducible refine block_ret ?_)
    refine ret1 (fn := Try.f5) rfl st3.defers e2 ?_
    exact ⟨rfl, st3.ext0⟩
  · try simp only [Bool.and_eq_true, Bool.or_eq_true, decide_eq_true_eq, decide_eq_false_iff_not, Bool.not_eq_true', Bool.and_eq_false_iff, Bool.or_eq_false_iff, Bool.not_eq_false', Int.not_lt, Int.not_le, beq_iff_eq, spanB] at hc1
    refine wp_skip ?_
    show Code.wp _ _ _ a2 w2
    refine wp_seq ?_
    refine region_St (bf := [0]) (sp := [
        (det (Nw w) 3 (.slice none 0 0))])
      [] mixed st2 (by kernel_rfl) trivial
      ⟨Ob.det rfl rfl rfl (fun _ a_ _ _ c => r_assign rfl rfl),
       trivial⟩ ?_
    intro a4 w4 τ4 st4 f4
    replace e0 := f4.old e0 (by kernel_rfl)
    replace e2 := f4.old e2 (by kernel_rfl)
    have e3 : get a4 3 = (.slice none 0 0) := f4.v 0 rfl
    replace e7 := f4.old e7 (by kernel_rfl)
    clear f4
    show Code.wp _ _ _ a4 w4
    refine wp_seq ?_
    refine wp_seq ?_
    refine region_St (bf := [0, 1, 3, 7]) (sp := [
        (det (Nw w) 9 v),
            (det (Nw w) 10 (.int .i64 ((xs.length : Int)))),
            (det (Nw w) 11 (.int .i64 ((xs.length : Int) - 1))),
            (det (Nw w) 4 (.int .i64 ((xs.length : Int) - 1)))])
      [] mixed st4 (by kernel_rfl) trivial
      ⟨Ob.det rfl rfl rfl (fun _ a_ _ _ c => r_move rfl (c.eo e0 (by kernel_rfl))),
           Ob.det rfl rfl rfl (fun _ a_ _ _ c => r_len rfl Try.underlying22 (c.ev 0 rfl rfl) hS.sl),
           Ob.det rfl rfl rfl (fun _ a_ _ _ c => r_sub rfl (c.ev 1 rfl rfl) rfl (by omega)),
           Ob.det rfl rfl rfl (fun _ a_ _ _ c => r_assign rfl (c.ev 2 rfl rfl)),
       trivial⟩ ?_
    intro a5 w5 τ5 st5 f5
    replace e0 := f5.old e0 (by kernel_rfl)
    replace e2 := f5.old e2 (by kernel_rfl)
    replace e3 := f5.old e3 (by kernel_rfl)
    have e4 : get a5 4 = (.int .i64 ((xs.length : Int) - 1)) := f5.v 3 rfl
    replace e7 := f5.old e7 (by kernel_rfl)
    clear f5
    show Code.wp _ _ _ a5 w5
    refine wp_block ?_
    refine wp_loop (fun a_ w_ => ∃ (n : Nat) (o : Value) (τ : Nat → Foot), (n ≤ xs.length) ∧
            St (Nw w) w 35 a_ w_ τ ∧
            get a_ 3 = o ∧
            get a_ 4 = (.int .i64 ((n : Int) - 1)) ∧
            get a_ 0 = v ∧
            get a_ 2 = (.bool (false)) ∧
            get a_ 7 = (.bool (decide (30 < (xs.length : Int)))) ∧
            ownR SpanE 29 (twice xs n) (τ 0) o w_) (fun a_ _ => (intOf (get a_ 4) + 1).toNat) ?_ ?_
    · refine ⟨xs.length, (.slice none 0 0), τ5, ?_, st5, e3, (e4.trans (int_eq (by omega))), e0, e2, e7, ?_⟩
      · omega
      · exact (ownR.nil _ _ _ _).cast twice_nil
    · intro a6 w6 hI
      obtain ⟨n, o, τ6, q0, st6, e3, e4, e0, e2, e7, r0⟩ := hI
      have htl := twice_len xs n
      have m4 := e4
      refine wp_seq ?_
      refine wp_seq ?_
      refine region_St (bf := [0, 1]) (sp := [
          (det (Nw w) 12 (.int .i64 ((n : Int) - 1))),
                (det (Nw w) 13 (.bool (decide (0 ≤ (n : Int) - 1))))])
        [(iown SpanE 29 (Nw w) o (twice xs n))] mixed st6 (by kernel_rfl) ⟨r0, trivial⟩
        ⟨Ob.det rfl rfl rfl (fun _ a_ _ _ c => r_move rfl (c.eo e4 (by kernel_rfl))),
               Ob.det rfl rfl rfl (fun _ a_ _ _ c => r_geq rfl (c.ev 0 rfl rfl) rfl),
         trivial⟩ ?_
      intro a7 w7 τ7 st7 f7
      replace e0 := f7.old e0 (by kernel_rfl)
      replace e2 := f7.old e2 (by kernel_rfl)
      replace e3 := f7.old e3 (by kernel_rfl)
      replace e4 := f7.old e4 (by kernel_rfl)
      replace e7 := f7.old e7 (by kernel_rfl)
      have e13 : get a7 13 = (.bool (decide (0 ≤ (n : Int) - 1))) := f7.v 1 rfl
      replace r0 : ownR SpanE 29 (twice xs n) (τ7 0) o w7 := f7.iown 0 rfl rfl
      clear f7
      show Code.wp _ _ _ a7 w7
      refine wp_cond_split (t := decide (0 ≤ (n : Int) - 1)) e13 (fun hc2 => ?_) (fun hc2 => ?_)
      · try simp only [Bool.and_eq_true, Bool.or_eq_true, decide_eq_true_eq, decide_eq_false_iff_not, Bool.not_eq_true', Bool.and_eq_false_iff, Bool.or_eq_false_iff, Bool.not_eq_false', Int.not_lt, Int.not_le, beq_iff_eq, spanB] at hc2
        refine wp_skip ?_
        show Code.wp _ _ _ a7 w7
        refine wp_seq ?_
        refine wp_block ?_
        refine region_St (bf := [0, 0, 0, 6, 14, 0, 0, 96, 224, 510, 1023, 2047]) (sp := [
            (det (Nw w) 16 o),
                    (det (Nw w) 17 v),
                    (det (Nw w) 18 (.int .i64 ((n : Int) - 1))),
                    (det (Nw w) 19 (.pointer (some ((ptrOf v).add (((n : Int) - 1 : Int).toNat * 2))))),
                    (det (Nw w) 20 (.agg #[(.int .i64 ((nth xs ((n : Int) - 1)).1)), (.int .i64 ((nth xs ((n : Int) - 1)).2))])),
                    (det (Nw w) 21 v),
                    (det (Nw w) 22 (.int .i64 ((n : Int) - 1))),
                    (det (Nw w) 23 (.pointer (some ((ptrOf v).add (((n : Int) - 1 : Int).toNat * 2))))),
                    (det (Nw w) 24 (.agg #[(.int .i64 ((nth xs ((n : Int) - 1)).1)), (.int .i64 ((nth xs ((n : Int) - 1)).2))])),
                    (own SpanE 29 (Nw w) 1 25 ([(nth xs ((n : Int) - 1)), (nth xs ((n : Int) - 1))])),
                    (own SpanE 29 (Nw w) 0 26 ((twice xs n) ++ ([(nth xs ((n : Int) - 1)), (nth xs ((n : Int) - 1))]))),
                    (own SpanE 29 (Nw w) 0 3 ((twice xs n) ++ ([(nth xs ((n : Int) - 1)), (nth xs ((n : Int) - 1))])))])
          [(iown SpanE 29 (Nw w) o (twice xs n))] mixed st7 (by kernel_rfl) ⟨r0, trivial⟩
          ⟨Ob.det rfl rfl rfl (fun _ a_ _ _ c => r_move rfl (c.eo e3 (by kernel_rfl))),
                   Ob.det rfl rfl rfl (fun _ a_ _ _ c => r_move rfl (c.eo e0 (by kernel_rfl))),
                   Ob.det rfl rfl rfl (fun _ a_ _ _ c => r_move rfl (c.eo e4 (by kernel_rfl))),
                   Ob.det rfl rfl rfl (fun _ a_ _ _ c => r_indexAddr rfl Try.underlying22 Try.sizeOf29 (c.ev 1 rfl rfl) hS.sl (c.ev 2 rfl rfl) (by omega) (by omega)),
                   Ob.det rfl rfl rfl (fun _ a_ _ _ c => r_loadN (vs := [(.int .i64 ((nth xs ((n : Int) - 1)).1)), (.int .i64 ((nth xs ((n : Int) - 1)).2))]) rfl Try.isAgg29 Try.sizeOf29 (c.ev 3 rfl rfl) rfl (fun _ _ hj => ((hS.at (st7.ext.trans c.J.ext))).elem (nth_some (by omega) (by omega)) hj)),
                   Ob.det rfl rfl rfl (fun _ a_ _ _ c => r_move rfl (c.eo e0 (by kernel_rfl))),
                   Ob.det rfl rfl rfl (fun _ a_ _ _ c => r_move rfl (c.eo e4 (by kernel_rfl))),
                   Ob.det rfl rfl rfl (fun _ a_ _ _ c => r_indexAddr rfl Try.underlying22 Try.sizeOf29 (c.ev 5 rfl rfl) hS.sl (c.ev 6 rfl rfl) (by omega) (by omega)),
                   Ob.det rfl rfl rfl (fun _ a_ _ _ c => r_loadN (vs := [(.int .i64 ((nth xs ((n : Int) - 1)).1)), (.int .i64 ((nth xs ((n : Int) - 1)).2))]) rfl Try.isAgg29 Try.sizeOf29 (c.ev 7 rfl rfl) rfl (fun _ _ hj => ((hS.at (st7.ext.trans c.J.ext))).elem (nth_some (by omega) (by omega)) hj)),
                   Ob.buildSlice (cells := #[(.int .i64 ((nth xs ((n : Int) - 1)).1)), (.int .i64 ((nth xs ((n : Int) - 1)).2)), (.int .i64 ((nth xs ((n : Int) - 1)).1)), (.int .i64 ((nth xs ((n : Int) - 1)).2))]) rfl rfl rfl rfl Try.underlying22 Try.sizeOf29 Try.zeroValue29 rfl (by decide) (by decide) (fun _ a_ _ _ c => by simp only [List.map_toArray, List.map_cons, List.map_nil, (show a_.eval (.tmp 20) = (.agg #[(.int .i64 ((nth xs ((n : Int) - 1)).1)), (.int .i64 ((nth xs ((n : Int) - 1)).2))]) from (c.ev 4 rfl rfl)), (show a_.eval (.tmp 24) = (.agg #[(.int .i64 ((nth xs ((n : Int) - 1)).1)), (.int .i64 ((nth xs ((n : Int) - 1)).2))]) from (c.ev 8 rfl rfl))]; kernel_rfl) rfl,
                   Ob.append (t0 := 3) rfl rfl rfl rfl Try.underlying22 (i := Try.t29) rfl rfl rfl rfl (by simp only [maxLen]; (try simp); omega) (by show _ * 16 ≤ _; (try simp); omega) (fun _ _ _ _ c => ⟨by rw [(show get _ 3 = o from c.old e3 (by kernel_rfl))]; exact c.iown 0 rfl rfl (by kernel_rfl), (c.ev 0 rfl rfl).trans (show o = get _ 3 from (c.old e3 (by kernel_rfl)).symm), ⟨_, rfl, (c.rown 9 rfl rfl (by kernel_rfl)).1.sl⟩⟩),
                   Ob.moveT (t0 := 26) rfl rfl rfl rfl rfl (.inr rfl) (fun _ _ _ _ c => ⟨c.rown 10 rfl rfl (by kernel_rfl), rfl⟩),
           trivial⟩ ?_
        intro a8 w8 τ8 st8 f8
        obtain ⟨b8x25, e25⟩ : ∃ b, get a8 25 = b := ⟨_, rfl⟩
        obtain ⟨b8x3, e3⟩ : ∃ b, get a8 3 = b := ⟨_, rfl⟩
        replace e0 := f8.old e0 (by kernel_rfl)
        replace e2 := f8.old e2 (by kernel_rfl)
        replace e4 := f8.old e4 (by kernel_rfl)
        replace e7 := f8.old e7 (by kernel_rfl)
        replace e13 := f8.old e13 (by kernel_rfl)
        have r0 : ownR SpanE 29 ((twice xs n) ++ ([(nth xs ((n : Int) - 1)), (nth xs ((n : Int) - 1))])) (τ8 0) b8x3 w8 := f8.rown 11 rfl rfl e3
        have r1 : ownR SpanE 29 ([(nth xs ((n : Int) - 1)), (nth xs ((n : Int) - 1))]) (τ8 1) b8x25 w8 := f8.rown 9 rfl rfl e25
        clear f8
        show _
        show Code.wp _ _ _ a8 w8
        refine region_St (bf := [0, 1, 3]) (sp := [
            (det (Nw w) 14 (.int .i64 ((n : Int) - 1))),
                    (det (Nw w) 15 (.int .i64 ((n : Int) - 1 - 1))),
                    (det (Nw w) 4 (.int .i64 ((n : Int) - 1 - 1)))])
          [(iown SpanE 29 (Nw w) b8x3 ((twice xs n) ++ ([(nth xs ((n : Int) - 1)), (nth xs ((n : Int) - 1))]))), (iown SpanE 29 (Nw w) b8x25 ([(nth xs ((n : Int) - 1)), (nth xs ((n : Int) - 1))]))] mixed st8 (by kernel_rfl) ⟨r0, r1, trivial⟩
          ⟨Ob.det rfl rfl rfl (fun _ a_ _ _ c => r_move rfl (c.eo e4 (by kernel_rfl))),
                   Ob.det rfl rfl rfl (fun _ a_ _ _ c => r_sub rfl (c.ev 0 rfl rfl) rfl (by omega)),
                   Ob.det rfl rfl rfl (fun _ a_ _ _ c => r_assign rfl (c.ev 1 rfl rfl)),
           trivial⟩ ?_
        intro a9 w9 τ9 st9 f9
        replace e0 := f9.old e0 (by kernel_rfl)
        replace e2 := f9.old e2 (by kernel_rfl)
        replace e3 := f9.old e3 (by kernel_rfl)
        have e4 : get a9 4 = (.int .i64 ((n : Int) - 1 - 1)) := f9.v 2 rfl
        replace e7 := f9.old e7 (by kernel_rfl)
        replace e13 := f9.old e13 (by kernel_rfl)
        replace r0 : ownR SpanE 29 ((twice xs n) ++ ([(nth xs ((n : Int) - 1)), (nth xs ((n : Int) - 1))])) (τ9 0) b8x3 w9 := f9.iown 0 rfl rfl
        replace r1 : ownR SpanE 29 ([(nth xs ((n : Int) - 1)), (nth xs ((n : Int) - 1))]) (τ9 1) b8x25 w9 := f9.iown 1 rfl rfl
        clear f9
        refine ⟨⟨n - 1, b8x3, τ9, ?_, st9, e3, (e4.trans (int_eq (by omega))), e0, e2, e7, ?_⟩, ?_⟩
        · omega
        · exact r0.cast (by exact twice_succ (by omega) (by omega))
        · simp only [m4, e4, intOf]; omega
      · try simp only [Bool.and_eq_true, Bool.or_eq_true, decide_eq_true_eq, decide_eq_false_iff_not, Bool.not_eq_true', Bool.and_eq_false_iff, Bool.or_eq_false_iff, Bool.not_eq_false', Int.not_lt, Int.not_le, beq_iff_eq, spanB] at hc2
        refine wp_exit ?_
        repeat (with_reducible refine then_exit ?_)
        refine exit_here ?_
        show Code.wp _ _ _ a7 w7
        refine wp_seq ?_
        refine region_St (bf := [0, 1, 0, 7, 15, 31, 63, 127, 255]) (sp := [
            (det (Nw w) 27 v),
                    (own SpanE 29 (Nw w) 1 28 (unionF xs)),
                    (det (Nw w) 29 o),
                    (own SpanE 29 (Nw w) 2 30 (unionF (twice xs n))),
                    (det (Nw w) 31 (.bool (decide (unionF xs = unionF (twice xs n))))),
                    (det (Nw w) 32 (.bool (decide (unionF xs = unionF (twice xs n))))),
                    (gdet (Nw w) 33 ((decide (unionF xs = unionF (twice xs n))) = true) (.bool (true))),
                    (det (Nw w) 34 (.bool ((decide (unionF xs = unionF (twice xs n))) && true))),
                    (det (Nw w) 2 (.bool ((decide (unionF xs = unionF (twice xs n))) && true)))])
          [(iown SpanE 29 (Nw w) o (twice xs n))] mixed st7 (by kernel_rfl) ⟨r0, trivial⟩
          ⟨Ob.det rfl rfl rfl (fun _ a_ _ _ c => r_move rfl (c.eo e0 (by kernel_rfl))),
                   Ob.callOwn rfl rfl rfl (fun _ a_ _ _ c => ⟨_, _, (e_call1 rfl rfl Try.call13 (c.ev 0 rfl rfl)), union_c v xs _ (hS.at (st7.ext.trans c.J.ext)) (by omega)⟩),
                   Ob.det rfl rfl rfl (fun _ a_ _ _ c => r_move rfl (c.eo e3 (by kernel_rfl))),
                   Ob.callOwn rfl rfl rfl (fun _ a_ _ _ c => ⟨_, _, (e_call1 rfl rfl Try.call13 (c.ev 2 rfl rfl)), union_c o (twice xs n) _ (c.iown 0 rfl rfl (by kernel_rfl)).1.sl (by omega)⟩),
                   Ob.call rfl rfl rfl (fun _ a_ _ _ c => ⟨_, _, (e_call2 rfl rfl Try.call12 (eval_tmp _ 28) (eval_tmp _ 30)), spans_c _ _ (unionF xs) (unionF (twice xs n)) _ (c.rown 1 rfl rfl (by kernel_rfl)).1.sl (c.rown 3 rfl rfl (by kernel_rfl)).1.sl⟩),
                   Ob.det rfl rfl rfl (fun _ a_ _ _ c => r_move rfl (c.ev 4 rfl rfl)),
                   Ob.gcall rfl rfl rfl rfl (gi := 5) (tg := 32) rfl rfl Iff.rfl (fun _ a_ _ _ c hpc => ⟨_, _, (e_call0 rfl rfl Try.call11), awake_c _⟩),
                   Ob.det rfl rfl rfl (fun _ a_ _ _ c => r_and rfl (c.ev 5 rfl rfl) (fun h => (c.eg 6 rfl rfl h))),
                   Ob.det rfl rfl rfl (fun _ a_ _ _ c => r_assign rfl (c.ev 7 rfl rfl)),
           trivial⟩ ?_
        intro a10 w10 τ10 st10 f10
        obtain ⟨b10x28, e28⟩ : ∃ b, get a10 28 = b := ⟨_, rfl⟩
        obtain ⟨b10x30, e30⟩ : ∃ b, get a10 30 = b := ⟨_, rfl⟩
        replace e0 := f10.old e0 (by kernel_rfl)
        have e2 : get a10 2 = (.bool ((decide (unionF xs = unionF (twice xs n))) && true)) := f10.v 8 rfl
        replace e3 := f10.old e3 (by kernel_rfl)
        replace e4 := f10.old e4 (by kernel_rfl)
        replace e7 := f10.old e7 (by kernel_rfl)
        replace e13 := f10.old e13 (by kernel_rfl)
        replace r0 : ownR SpanE 29 (twice xs n) (τ10 0) o w10 := f10.iown 0 rfl rfl
        have r1 : ownR SpanE 29 (unionF xs) (τ10 1) b10x28 w10 := f10.rown 1 rfl rfl e28
        have r2 : ownR SpanE 29 (unionF (twice xs n)) (τ10 2) b10x30 w10 := f10.rown 3 rfl rfl e30
        clear f10
        show Code.wp _ _ _ a10 w10
        refine wp_ret ?_
        repeat (first | with_reducible refine then_ret ?_ | with_reducible refine block_ret ?_)
        refine ret1 (fn := Try.f5) rfl st10.defers e2 ?_
        exact ⟨congrArg _ (congrArg _ (show ((decide (unionF xs = unionF (twice xs n))) && true) = true from by obtain rfl : n = 0 := (by omega); rw [unionF_cov (twice_cov xs)]; simp)), st10.ext0⟩

set_option maxRecDepth 100000 in
theorem apartTells_c (v : Value) (xs : List (Int × Int)) (n : Int) (w : World) (hS : SlT SpanE w v xs) : Calls Try.prog 6 #[v, (.int .i64 (n))] w (fun e w' => e = .returned (.bool (true)) ∧ Ext none' w w') := by
  refine enter (n := 40) Try.func6 rfl rfl (Nat.le_of_ble_eq_true rfl) ?_
  intro a0 τ0 ha st0
  have e0 : get a0 0 = v := ha 0 _ rfl
  have e1 : get a0 1 = (.int .i64 (n)) := ha 1 _ rfl
  clear ha
  have hle := hS.le
  refine wp_seq ?_
  refine region_St (bf := [0]) (sp := [
      (det (Nw w) 4 (.bool (false)))])
    [] mixed st0 (by kernel_rfl) trivial
    ⟨Ob.det rfl rfl rfl (fun _ a_ _ _ c => r_assign rfl rfl),
     trivial⟩ ?_
  intro a1 w1 τ1 st1 f1
  replace e0 := f1.old e0 (by kernel_rfl)
  replace e1 := f1.old e1 (by kernel_rfl)
  have e4 : get a1 4 = (.bool (false)) := f1.v 0 rfl
  clear f1
  show Code.wp _ _ _ a1 w1
  refine wp_seq ?_
  refine wp_seq ?_
  refine region_St (bf := [0, 1, 3]) (sp := [
      (det (Nw w) 7 v),
        (det (Nw w) 8 (.int .i64 ((xs.length : Int)))),
        (det (Nw w) 9 (.bool (decide (30 < (xs.length : Int)))))])
    [] mixed st1 (by kernel_rfl) trivial
    ⟨Ob.det rfl rfl rfl (fun _ a_ _ _ c => r_move rfl (c.eo e0 (by kernel_rfl))),
       Ob.det rfl rfl rfl (fun _ a_ _ _ c => r_len rfl Try.underlying22 (c.ev 0 rfl rfl) hS.sl),
       Ob.det rfl rfl rfl (fun _ a_ _ _ c => r_gtr rfl (c.ev 1 rfl rfl) rfl),
     trivial⟩ ?_
  intro a2 w2 τ2 st2 f2
  replace e0 := f2.old e0 (by kernel_rfl)
  replace e1 := f2.old e1 (by kernel_rfl)
  replace e4 := f2.old e4 (by kernel_rfl)
  have e9 : get a2 9 = (.bool (decide (30 < (xs.length : Int)))) := f2.v 2 rfl
  clear f2
  show Code.wp _ _ _ a2 w2
  refine wp_cond_split (t := decide (30 < (xs.length : Int))) e9 (fun hc1 => ?_) (fun hc1 => ?_)
  · try simp only [Bool.and_eq_true, Bool.or_eq_true, decide_eq_true_eq, decide_eq_false_iff_not, Bool.not_eq_true', Bool.and_eq_false_iff, Bool.or_eq_false_iff, Bool.not_eq_false', Int.not_lt, Int.not_le, beq_iff_eq, spanB] at hc1
    refine wp_seq ?_
    refine region_St (bf := [0, 1]) (sp := [
        (det (Nw w) 10 (.bool (true))),
            (det (Nw w) 4 (.bool (true)))])
      [] mixed st2 (by kernel_rfl) trivial
      ⟨Ob.call rfl rfl rfl (fun _ a_ _ _ c => ⟨_, _, (e_call0 rfl rfl Try.call11), awake_c _⟩),
           Ob.det rfl rfl rfl (fun _ a_ _ _ c => r_assign rfl (c.ev 0 rfl rfl)),
       trivial⟩ ?_
    intro a3 w3 τ3 st3 f3
    replace e0 := f3.old e0 (by kernel_rfl)
    replace e1 := f3.old e1 (by kernel_rfl)
    have e4 : get a3 4 = (.bool (true)) := f3.v 1 rfl
    replace e9 := f3.old e9 (by kernel_rfl)
    clear f3
    show Code.wp _ _ _ a3 w3
    refine wp_ret ?_
    repeat (first | with_reducible refine then_ret ?_ | with_reducible refine block_ret ?_)
    refine ret1 (fn := Try.f6) rfl st3.defers e4 ?_
    exact ⟨rfl, st3.ext0⟩
  · try simp only [Bool.and_eq_true, Bool.or_eq_true, decide_eq_true_eq, decide_eq_false_iff_not, Bool.not_eq_true', Bool.and_eq_false_iff, Bool.or_eq_false_iff, Bool.not_eq_false', Int.not_lt, Int.not_le, beq_iff_eq, spanB] at hc1
    refine wp_skip ?_
    show Code.wp _ _ _ a2 w2
    refine wp_seq ?_
    refine region_St (bf := [0, 0, 2, 6, 15, 31]) (sp := [
        (det (Nw w) 11 (.int .i64 (n))),
            (det (Nw w) 12 v),
            (det (Nw w) 13 (.int .i64 ((xs.length : Int)))),
            (det (Nw w) 14 (.int .i64 ((xs.length : Int) + 1))),
            (det (Nw w) 15 (.int .i64 (lowF n ((xs.length : Int) + 1)))),
            (det (Nw w) 5 (.int .i64 (lowF n ((xs.length : Int) + 1))))])
      [] mixed st2 (by kernel_rfl) trivial
      ⟨Ob.det rfl rfl rfl (fun _ a_ _ _ c => r_move rfl (c.eo e1 (by kernel_rfl))),
           Ob.det rfl rfl rfl (fun _ a_ _ _ c => r_move rfl (c.eo e0 (by kernel_rfl))),
           Ob.det rfl rfl rfl (fun _ a_ _ _ c => r_len rfl Try.underlying22 (c.ev 1 rfl rfl) hS.sl),
           Ob.det rfl rfl rfl (fun _ a_ _ _ c => r_add rfl (c.ev 2 rfl rfl) rfl (by first | omega | (simp; omega))),
           Ob.call rfl rfl rfl (fun _ a_ _ _ c => ⟨_, _, (e_call2 rfl rfl Try.call16 (c.ev 0 rfl rfl) (c.ev 3 rfl rfl)), low_c n ((xs.length : Int) + 1) _ (by first | omega | (simp; omega)) (by first | omega | (simp; omega))⟩),
           Ob.det rfl rfl rfl (fun _ a_ _ _ c => r_assign rfl (c.ev 4 rfl rfl)),
       trivial⟩ ?_
    intro a4 w4 τ4 st4 f4
    replace e0 := f4.old e0 (by kernel_rfl)
    replace e1 := f4.old e1 (by kernel_rfl)
    replace e4 := f4.old e4 (by kernel_rfl)
    have e5 : get a4 5 = (.int .i64 (lowF n ((xs.length : Int) + 1))) := f4.v 5 rfl
    replace e9 := f4.old e9 (by kernel_rfl)
    clear f4
    have hlow := lowF_range n ((xs.length : Int) + 1) (by omega) (by omega)
    obtain ⟨k, hk⟩ : ∃ x_ : Nat, lowF n ((xs.length : Int) + 1) = (x_ : Int) := ⟨(lowF n ((xs.length : Int) + 1)).toNat, by omega⟩
    replace e5 := e5.trans (int_eq hk)
    show Code.wp _ _ _ a4 w4
    refine wp_seq ?_
    refine region_St (bf := [0, 0, 0, 6, 15, 0, 0, 96, 255, 511]) (sp := [
        (own SpanE 29 (Nw w) 0 16 ([])),
            (det (Nw w) 17 v),
            (det (Nw w) 18 (.int .i64 ((k : Int)))),
            (det (Nw w) 19 (subV v k xs.length 2)),
            (own SpanE 29 (Nw w) 0 20 (([]) ++ ((xs.drop k).take (xs.length - k)))),
            (det (Nw w) 21 v),
            (det (Nw w) 22 (.int .i64 ((k : Int)))),
            (det (Nw w) 23 (subV v 0 k 2)),
            (own SpanE 29 (Nw w) 0 24 ((([]) ++ ((xs.drop k).take (xs.length - k))) ++ ((xs.drop 0).take (k - 0)))),
            (own SpanE 29 (Nw w) 0 6 ((([]) ++ ((xs.drop k).take (xs.length - k))) ++ ((xs.drop 0).take (k - 0))))])
      [] mixed st4 (by kernel_rfl) trivial
      ⟨Ob.buildEmpty rfl rfl rfl rfl Try.underlying22 Try.sizeOf29,
           Ob.det rfl rfl rfl (fun _ a_ _ _ c => r_move rfl (c.eo e0 (by kernel_rfl))),
           Ob.det rfl rfl rfl (fun _ a_ _ _ c => r_move rfl (c.eo e5 (by kernel_rfl))),
           Ob.det rfl rfl rfl (fun _ a_ _ _ c => r_sliceLo rfl Try.underlying22 Try.sizeOf29 (c.ev 1 rfl rfl) hS.sl (c.ev 2 rfl rfl) (by first | omega | (simp; omega)) (by first | omega | (simp; omega))),
           Ob.append (t0 := 16) rfl rfl rfl rfl Try.underlying22 (i := Try.t29) rfl rfl rfl rfl (by simp only [maxLen]; (try simp); omega) (by show _ * 16 ≤ _; (try simp); omega) (fun _ _ _ _ c => ⟨c.rown 0 rfl rfl (by kernel_rfl), rfl, ⟨_, (c.ev 3 rfl rfl), ((hS.at (st4.ext.trans c.J.ext)).sub (lo := k) (hi := xs.length) (by first | omega | (simp; omega)) (by first | omega | (simp; omega)))⟩⟩),
           Ob.det rfl rfl rfl (fun _ a_ _ _ c => r_move rfl (c.eo e0 (by kernel_rfl))),
           Ob.det rfl rfl rfl (fun _ a_ _ _ c => r_move rfl (c.eo e5 (by kernel_rfl))),
           Ob.det rfl rfl rfl (fun _ a_ _ _ c => r_sliceHi rfl Try.underlying22 Try.sizeOf29 (c.ev 5 rfl rfl) hS.sl (c.ev 6 rfl rfl) (by first | omega | (simp; omega)) (by first | omega | (simp; omega))),
           Ob.append (t0 := 20) rfl rfl rfl rfl Try.underlying22 (i := Try.t29) rfl rfl rfl rfl (by simp only [maxLen]; (try simp); omega) (by show _ * 16 ≤ _; (try simp); omega) (fun _ _ _ _ c => ⟨c.rown 4 rfl rfl (by kernel_rfl), rfl, ⟨_, (c.ev 7 rfl rfl), ((hS.at (st4.ext.trans c.J.ext)).sub (lo := 0) (hi := k) (by first | omega | (simp; omega)) (by first | omega | (simp; omega)))⟩⟩),
           Ob.moveT (t0 := 24) rfl rfl rfl rfl rfl (.inr rfl) (fun _ _ _ _ c => ⟨c.rown 8 rfl rfl (by kernel_rfl), rfl⟩),
       trivial⟩ ?_
    intro a5 w5 τ5 st5 f5
    obtain ⟨b5x6, e6⟩ : ∃ b, get a5 6 = b := ⟨_, rfl⟩
    replace e0 := f5.old e0 (by kernel_rfl)
    replace e1 := f5.old e1 (by kernel_rfl)
    replace e4 := f5.old e4 (by kernel_rfl)
    replace e5 := f5.old e5 (by kernel_rfl)
    replace e9 := f5.old e9 (by kernel_rfl)
    have r0 : ownR SpanE 29 ((([]) ++ ((xs.drop k).take (xs.length - k))) ++ ((xs.drop 0).take (k - 0))) (τ5 0) b5x6 w5 := f5.rown 9 rfl rfl e6
    clear f5
    show Code.wp _ _ _ a5 w5
    refine wp_seq ?_
    refine region_St (bf := [0, 1, 0, 7, 15, 31, 63, 127, 63, 511, 1023, 2047, 4095, 8191, 16383, 32767]) (sp := [
        (det (Nw w) 25 v),
            (det (Nw w) 26 (.bool (apartF (isort ltS xs)))),
            (det (Nw w) 27 v),
            (det (Nw w) 28 (.bool (apartR (isort lessB xs)))),
            (det (Nw w) 29 (.bool ((apartF (isort ltS xs)) == (apartR (isort lessB xs))))),
            (det (Nw w) 30 (.bool ((apartF (isort ltS xs)) == (apartR (isort lessB xs))))),
            (gdet (Nw w) 31 (((apartF (isort ltS xs)) == (apartR (isort lessB xs))) = true) b5x6),
            (gdet (Nw w) 32 (((apartF (isort ltS xs)) == (apartR (isort lessB xs))) = true) (.bool (apartF (isort ltS ((([]) ++ ((xs.drop k).take (xs.length - k))) ++ ((xs.drop 0).take (k - 0))))))),
            (gdet (Nw w) 33 (((apartF (isort ltS xs)) == (apartR (isort lessB xs))) = true) v),
            (gdet (Nw w) 34 (((apartF (isort ltS xs)) == (apartR (isort lessB xs))) = true) (.bool (apartF (isort ltS xs)))),
            (gdet (Nw w) 35 (((apartF (isort ltS xs)) == (apartR (isort lessB xs))) = true) (.bool ((apartF (isort ltS ((([]) ++ ((xs.drop k).take (xs.length - k))) ++ ((xs.drop 0).take (k - 0))))) == (apartF (isort ltS xs))))),
            (det (Nw w) 36 (.bool (((apartF (isort ltS xs)) == (apartR (isort lessB xs))) && ((apartF (isort ltS ((([]) ++ ((xs.drop k).take (xs.length - k))) ++ ((xs.drop 0).take (k - 0))))) == (apartF (isort ltS xs)))))),
            (det (Nw w) 37 (.bool (((apartF (isort ltS xs)) == (apartR (isort lessB xs))) && ((apartF (isort ltS ((([]) ++ ((xs.drop k).take (xs.length - k))) ++ ((xs.drop 0).take (k - 0))))) == (apartF (isort ltS xs)))))),
            (gdet (Nw w) 38 ((((apartF (isort ltS xs)) == (apartR (isort lessB xs))) && ((apartF (isort ltS ((([]) ++ ((xs.drop k).take (xs.length - k))) ++ ((xs.drop 0).take (k - 0))))) == (apartF (isort ltS xs)))) = true) (.bool (true))),
            (det (Nw w) 39 (.bool ((((apartF (isort ltS xs)) == (apartR (isort lessB xs))) && ((apartF (isort ltS ((([]) ++ ((xs.drop k).take (xs.length - k))) ++ ((xs.drop 0).take (k - 0))))) == (apartF (isort ltS xs)))) && true))),
            (det (Nw w) 4 (.bool ((((apartF (isort ltS xs)) == (apartR (isort lessB xs))) && ((apartF (isort ltS ((([]) ++ ((xs.drop k).take (xs.length - k))) ++ ((xs.drop 0).take (k - 0))))) == (apartF (isort ltS xs)))) && true)))])
      [(iown SpanE 29 (Nw w) b5x6 ((([]) ++ ((xs.drop k).take (xs.length - k))) ++ ((xs.drop 0).take (k - 0))))] mixed st5 (by kernel_rfl) ⟨r0, trivial⟩
      ⟨Ob.det rfl rfl rfl (fun _ a_ _ _ c => r_move rfl (c.eo e0 (by kernel_rfl))),
           Ob.call rfl rfl rfl (fun _ a_ _ _ c => ⟨_, _, (e_call1 rfl rfl Try.call17 (c.ev 0 rfl rfl)), apart_c v xs _ (hS.at (st5.ext.trans c.J.ext)) (by first | omega | (simp; omega))⟩),
           Ob.det rfl rfl rfl (fun _ a_ _ _ c => r_move rfl (c.eo e0 (by kernel_rfl))),
           Ob.call rfl rfl rfl (fun _ a_ _ _ c => ⟨_, _, (e_call1 rfl rfl Try.call18 (c.ev 2 rfl rfl)), refApart_c v xs _ (hS.at (st5.ext.trans c.J.ext)) (by first | omega | (simp; omega))⟩),
           Ob.det rfl rfl rfl (fun _ a_ _ _ c => r_beql rfl Try.underlying4 (c.ev 1 rfl rfl) (c.ev 3 rfl rfl)),
           Ob.det rfl rfl rfl (fun _ a_ _ _ c => r_move rfl (c.ev 4 rfl rfl)),
           Ob.gdet rfl rfl rfl rfl (gi := 5) (tg := 30) rfl rfl Iff.rfl (fun _ a_ _ _ c hpc => r_move rfl (c.eo e6 (by kernel_rfl))),
           Ob.gcall rfl rfl rfl rfl (gi := 5) (tg := 30) rfl rfl Iff.rfl (fun _ a_ _ _ c hpc => ⟨_, _, (e_call1 rfl rfl Try.call17 (c.eg 6 rfl rfl hpc)), apart_c b5x6 ((([]) ++ ((xs.drop k).take (xs.length - k))) ++ ((xs.drop 0).take (k - 0))) _ (c.iown 0 rfl rfl (by kernel_rfl)).1.sl (by have hq0 := hpc; (try simp only [Bool.and_eq_true, Bool.or_eq_true, decide_eq_true_eq, decide_eq_false_iff_not, Bool.not_eq_true', Bool.and_eq_false_iff, Bool.or_eq_false_iff, Bool.not_eq_false', Int.not_lt, Int.not_le, beq_iff_eq, spanB] at hq0); first | omega | (simp; omega))⟩),
           Ob.gdet rfl rfl rfl rfl (gi := 5) (tg := 30) rfl rfl Iff.rfl (fun _ a_ _ _ c hpc => r_move rfl (c.eo e0 (by kernel_rfl))),
           Ob.gcall rfl rfl rfl rfl (gi := 5) (tg := 30) rfl rfl Iff.rfl (fun _ a_ _ _ c hpc => ⟨_, _, (e_call1 rfl rfl Try.call17 (c.eg 8 rfl rfl hpc)), apart_c v xs _ (hS.at (st5.ext.trans c.J.ext)) (by have hq0 := hpc; (try simp only [Bool.and_eq_true, Bool.or_eq_true, decide_eq_true_eq, decide_eq_false_iff_not, Bool.not_eq_true', Bool.and_eq_false_iff, Bool.or_eq_false_iff, Bool.not_eq_false', Int.not_lt, Int.not_le, beq_iff_eq, spanB] at hq0); first | omega | (simp; omega))⟩),
           Ob.gdet rfl rfl rfl rfl (gi := 5) (tg := 30) rfl rfl Iff.rfl (fun _ a_ _ _ c hpc => r_beql rfl Try.underlying4 (c.eg 7 rfl rfl hpc) (c.eg 9 rfl rfl hpc)),
           Ob.det rfl rfl rfl (fun _ a_ _ _ c => r_and rfl (c.ev 5 rfl rfl) (fun h => (c.eg 10 rfl rfl h))),
           Ob.det rfl rfl rfl (fun _ a_ _ _ c => r_move rfl (c.ev 11 rfl rfl)),
           Ob.gcall rfl rfl rfl rfl (gi := 12) (tg := 37) rfl rfl Iff.rfl (fun _ a_ _ _ c hpc => ⟨_, _, (e_call0 rfl rfl Try.call11), awake_c _⟩),
           Ob.det rfl rfl rfl (fun _ a_ _ _ c => r_and rfl (c.ev 12 rfl rfl) (fun h => (c.eg 13 rfl rfl h))),
           Ob.det rfl rfl rfl (fun _ a_ _ _ c => r_assign rfl (c.ev 14 rfl rfl)),
       trivial⟩ ?_
    intro a6 w6 τ6 st6 f6
    replace e0 := f6.old e0 (by kernel_rfl)
    replace e1 := f6.old e1 (by kernel_rfl)
    have e4 : get a6 4 = (.bool ((((apartF (isort ltS xs)) == (apartR (isort lessB xs))) && ((apartF (isort ltS ((([]) ++ ((xs.drop k).take (xs.length - k))) ++ ((xs.drop 0).take (k - 0))))) == (apartF (isort ltS xs)))) && true)) := f6.v 15 rfl
    replace e5 := f6.old e5 (by kernel_rfl)
    replace e6 := f6.old e6 (by kernel_rfl)
    replace e9 := f6.old e9 (by kernel_rfl)
    replace r0 : ownR SpanE 29 ((([]) ++ ((xs.drop k).take (xs.length - k))) ++ ((xs.drop 0).take (k - 0))) (τ6 0) b5x6 w6 := f6.iown 0 rfl rfl
    clear f6
    show Code.wp _ _ _ a6 w6
    refine wp_ret ?_
    repeat (first | with_reducible refine then_ret ?_ | with_reducible refine block_ret ?_)
    refine ret1 (fn := Try.f6) rfl st6.defers e4 ?_
    exact ⟨congrArg _ (congrArg _ (show ((((apartF (isort ltS xs)) == (apartR (isort lessB xs))) && ((apartF (isort ltS ((([]) ++ ((xs.drop k).take (xs.length - k))) ++ ((xs.drop 0).take (k - 0))))) == (apartF (isort ltS xs)))) && true) = true from by rw [apartR_eq, apart_perm (turn_perm xs k (by omega))]; simp)), st6.ext0⟩

set_option maxRecDepth 100000 in
theorem apartPairs_c (v : Value) (xs : List (Int × Int)) (w : World) (hS : SlT SpanE w v xs) : Calls Try.prog 7 #[v] w (fun e w' => e = .returned (.bool (true)) ∧ Ext none' w w') := by
  refine enter (n := 58) Try.func7 rfl rfl (Nat.le_of_ble_eq_true rfl) ?_
  intro a0 τ0 ha st0
  have e0 : get a0 0 = v := ha 0 _ rfl
  clear ha
  have hle := hS.le
  refine wp_seq ?_
  refine region_St (bf := [0]) (sp := [
      (det (Nw w) 2 (.bool (false)))])
    [] mixed st0 (by kernel_rfl) trivial
    ⟨Ob.det rfl rfl rfl (fun _ a_ _ _ c => r_assign rfl rfl),
     trivial⟩ ?_
  intro a1 w1 τ1 st1 f1
  replace e0 := f1.old e0 (by kernel_rfl)
  have e2 : get a1 2 = (.bool (false)) := f1.v 0 rfl
  clear f1
  show Code.wp _ _ _ a1 w1
  refine wp_seq ?_
  refine wp_seq ?_
  refine region_St (bf := [0, 1, 3]) (sp := [
      (det (Nw w) 6 v),
        (det (Nw w) 7 (.int .i64 ((xs.length : Int)))),
        (det (Nw w) 8 (.bool (decide (16 < (xs.length : Int)))))])
    [] mixed st1 (by kernel_rfl) trivial
    ⟨Ob.det rfl rfl rfl (fun _ a_ _ _ c => r_move rfl (c.eo e0 (by kernel_rfl))),
       Ob.det rfl rfl rfl (fun _ a_ _ _ c => r_len rfl Try.underlying22 (c.ev 0 rfl rfl) hS.sl),
       Ob.det rfl rfl rfl (fun _ a_ _ _ c => r_gtr rfl (c.ev 1 rfl rfl) rfl),
     trivial⟩ ?_
  intro a2 w2 τ2 st2 f2
  replace e0 := f2.old e0 (by kernel_rfl)
  replace e2 := f2.old e2 (by kernel_rfl)
  have e8 : get a2 8 = (.bool (decide (16 < (xs.length : Int)))) := f2.v 2 rfl
  clear f2
  show Code.wp _ _ _ a2 w2
  refine wp_cond_split (t := decide (16 < (xs.length : Int))) e8 (fun hc1 => ?_) (fun hc1 => ?_)
  · try simp only [Bool.and_eq_true, Bool.or_eq_true, decide_eq_true_eq, decide_eq_false_iff_not, Bool.not_eq_true', Bool.and_eq_false_iff, Bool.or_eq_false_iff, Bool.not_eq_false', Int.not_lt, Int.not_le, beq_iff_eq, spanB] at hc1
    refine wp_seq ?_
    refine region_St (bf := [0, 1]) (sp := [
        (det (Nw w) 9 (.bool (true))),
            (det (Nw w) 2 (.bool (true)))])
      [] mixed st2 (by kernel_rfl) trivial
      ⟨Ob.call rfl rfl rfl (fun _ a_ _ _ c => ⟨_, _, (e_call0 rfl rfl Try.call11), awake_c _⟩),
           Ob.det rfl rfl rfl (fun _ a_ _ _ c => r_assign rfl (c.ev 0 rfl rfl)),
       trivial⟩ ?_
    intro a3 w3 τ3 st3 f3
    replace e0 := f3.old e0 (by kernel_rfl)
    have e2 : get a3 2 = (.bool (true)) := f3.v 1 rfl
    replace e8 := f3.old e8 (by kernel_rfl)
    clear f3
    show Code.wp _ _ _ a3 w3
    refine wp_ret ?_
    repeat (first | with_reducible refine then_ret ?_ | with_reducible refine block_ret ?_)
    refine ret1 (fn := Try.f7) rfl st3.defers e2 ?_
    exact ⟨rfl, st3.ext0⟩
  · try simp only [Bool.and_eq_true, Bool.or_eq_true, decide_eq_true_eq, decide_eq_false_iff_not, Bool.not_eq_true', Bool.and_eq_false_iff, Bool.or_eq_false_iff, Bool.not_eq_false', Int.not_lt, Int.not_le, beq_iff_eq, spanB] at hc1
    refine wp_skip ?_
    show Code.wp _ _ _ a2 w2
    refine wp_seq ?_
    refine region_St (bf := [0]) (sp := [
        (det (Nw w) 3 (.bool (true)))])
      [] mixed st2 (by kernel_rfl) trivial
      ⟨Ob.det rfl rfl rfl (fun _ a_ _ _ c => r_assign rfl rfl),
       trivial⟩ ?_
    intro a4 w4 τ4 st4 f4
    replace e0 := f4.old e0 (by kernel_rfl)
    replace e2 := f4.old e2 (by kernel_rfl)
    have e3 : get a4 3 = (.bool (true)) := f4.v 0 rfl
    replace e8 := f4.old e8 (by kernel_rfl)
    clear f4
    show Code.wp _ _ _ a4 w4
    refine wp_seq ?_
    refine wp_seq ?_
    refine region_St (bf := [0]) (sp := [
        (det (Nw w) 4 (.int .i64 (0)))])
      [] mixed st4 (by kernel_rfl) trivial
      ⟨Ob.det rfl rfl rfl (fun _ a_ _ _ c => r_assign rfl rfl),
       trivial⟩ ?_
    intro a5 w5 τ5 st5 f5
    replace e0 := f5.old e0 (by kernel_rfl)
    replace e2 := f5.old e2 (by kernel_rfl)
    replace e3 := f5.old e3 (by kernel_rfl)
    have e4 : get a5 4 = (.int .i64 (0)) := f5.v 0 rfl
    replace e8 := f5.old e8 (by kernel_rfl)
    clear f5
    show Code.wp _ _ _ a5 w5
    refine wp_block ?_
    refine wp_loop (fun a_ w_ => ∃ (i : Nat) (τ : Nat → Foot), (i ≤ xs.length) ∧
            (∀ j, j < i → (nth xs (j : Int)).1 ≤ (nth xs (j : Int)).2) ∧
            St (Nw w) w 58 a_ w_ τ ∧
            get a_ 3 = (.bool (allA xs i)) ∧
            get a_ 4 = (.int .i64 ((i : Int))) ∧
            get a_ 0 = v ∧
            get a_ 8 = (.bool (decide (16 < (xs.length : Int))))) (fun a_ _ => xs.length - (intOf (get a_ 4)).toNat) ?_ ?_
    · refine ⟨0, τ5, ?_, ?_, st5, (e3.trans (congrArg _ (by rfl))), (e4.trans (int_eq (by omega))), e0, e8⟩
      · omega
      · intro j hj; omega
    · intro a6 w6 hI
      obtain ⟨i, τ6, q0, q1, st6, e3, e4, e0, e8⟩ := hI
      have p1 := q1
      have m4 := e4
      refine wp_seq ?_
      refine wp_seq ?_
      refine region_St (bf := [0, 0, 2, 7]) (sp := [
          (det (Nw w) 10 (.int .i64 ((i : Int)))),
                (det (Nw w) 11 v),
                (det (Nw w) 12 (.int .i64 ((xs.length : Int)))),
                (det (Nw w) 13 (.bool (decide ((i : Int) < (xs.length : Int)))))])
        [] mixed st6 (by kernel_rfl) trivial
        ⟨Ob.det rfl rfl rfl (fun _ a_ _ _ c => r_move rfl (c.eo e4 (by kernel_rfl))),
               Ob.det rfl rfl rfl (fun _ a_ _ _ c => r_move rfl (c.eo e0 (by kernel_rfl))),
               Ob.det rfl rfl rfl (fun _ a_ _ _ c => r_len rfl Try.underlying22 (c.ev 1 rfl rfl) hS.sl),
               Ob.det rfl rfl rfl (fun _ a_ _ _ c => r_lss rfl (c.ev 0 rfl rfl) (c.ev 2 rfl rfl)),
         trivial⟩ ?_
      intro a7 w7 τ7 st7 f7
      replace e0 := f7.old e0 (by kernel_rfl)
      replace e3 := f7.old e3 (by kernel_rfl)
      replace e4 := f7.old e4 (by kernel_rfl)
      replace e8 := f7.old e8 (by kernel_rfl)
      have e13 : get a7 13 = (.bool (decide ((i : Int) < (xs.length : Int)))) := f7.v 3 rfl
      clear f7
      show Code.wp _ _ _ a7 w7
      refine wp_cond_split (t := decide ((i : Int) < (xs.length : Int))) e13 (fun hc2 => ?_) (fun hc2 => ?_)
      · try simp only [Bool.and_eq_true, Bool.or_eq_true, decide_eq_true_eq, decide_eq_false_iff_not, Bool.not_eq_true', Bool.and_eq_false_iff, Bool.or_eq_false_iff, Bool.not_eq_false', Int.not_lt, Int.not_le, beq_iff_eq, spanB] at hc2
        refine wp_skip ?_
        show Code.wp _ _ _ a7 w7
        refine wp_seq ?_
        refine wp_block ?_
        refine wp_seq ?_
        refine wp_seq ?_
        refine region_St (bf := [0, 0, 3, 7, 15, 0, 0, 96, 224, 480, 1023]) (sp := [
            (det (Nw w) 16 v),
                    (det (Nw w) 17 (.int .i64 ((i : Int)))),
                    (det (Nw w) 18 (.pointer (some ((ptrOf v).add (((i : Int) : Int).toNat * 2))))),
                    (det (Nw w) 19 (.pointer (some (((ptrOf v).add (((i : Int) : Int).toNat * 2)).add 0)))),
                    (det (Nw w) 20 (.int .i64 ((nth xs ((i : Int))).1))),
                    (det (Nw w) 21 v),
                    (det (Nw w) 22 (.int .i64 ((i : Int)))),
                    (det (Nw w) 23 (.pointer (some ((ptrOf v).add (((i : Int) : Int).toNat * 2))))),
                    (det (Nw w) 24 (.pointer (some (((ptrOf v).add (((i : Int) : Int).toNat * 2)).add 1)))),
                    (det (Nw w) 25 (.int .i64 ((nth xs ((i : Int))).2))),
                    (det (Nw w) 26 (.bool (decide ((nth xs ((i : Int))).2 < (nth xs ((i : Int))).1))))])
          [] mixed st7 (by kernel_rfl) trivial
          ⟨Ob.det rfl rfl rfl (fun _ a_ _ _ c => r_move rfl (c.eo e0 (by kernel_rfl))),
                   Ob.det rfl rfl rfl (fun _ a_ _ _ c => r_move rfl (c.eo e4 (by kernel_rfl))),
                   Ob.det rfl rfl rfl (fun _ a_ _ _ c => r_indexAddr rfl Try.underlying22 Try.sizeOf29 (c.ev 0 rfl rfl) hS.sl (c.ev 1 rfl rfl) (by first | omega | (simp; done)) (by first | omega | (simp; done))),
                   Ob.det rfl rfl rfl (fun _ a_ _ _ c => r_fieldAddr rfl Try.underlying29 rfl rfl Try.sizeOf3 (c.ev 2 rfl rfl)),
                   Ob.det rfl rfl rfl (fun _ a_ _ _ c => r_load1 rfl Try.isAgg3 (c.ev 3 rfl rfl) (((hS.at (st7.ext.trans c.J.ext))).elem (j := 0) (nth_some (by first | omega | (simp; done)) (by first | omega | (simp; done))) rfl)),
                   Ob.det rfl rfl rfl (fun _ a_ _ _ c => r_move rfl (c.eo e0 (by kernel_rfl))),
                   Ob.det rfl rfl rfl (fun _ a_ _ _ c => r_move rfl (c.eo e4 (by kernel_rfl))),
                   Ob.det rfl rfl rfl (fun _ a_ _ _ c => r_indexAddr rfl Try.underlying22 Try.sizeOf29 (c.ev 5 rfl rfl) hS.sl (c.ev 6 rfl rfl) (by first | omega | (simp; done)) (by first | omega | (simp; done))),
                   Ob.det rfl rfl rfl (fun _ a_ _ _ c => r_fieldAddr rfl Try.underlying29 rfl rfl Try.sizeOf3 (c.ev 7 rfl rfl)),
                   Ob.det rfl rfl rfl (fun _ a_ _ _ c => r_load1 rfl Try.isAgg3 (c.ev 8 rfl rfl) (((hS.at (st7.ext.trans c.J.ext))).elem (j := 1) (nth_some (by first | omega | (simp; done)) (by first | omega | (simp; done))) rfl)),
                   Ob.det rfl rfl rfl (fun _ a_ _ _ c => r_gtr rfl (c.ev 4 rfl rfl) (c.ev 9 rfl rfl)),
           trivial⟩ ?_
        intro a8 w8 τ8 st8 f8
        replace e0 := f8.old e0 (by kernel_rfl)
        replace e3 := f8.old e3 (by kernel_rfl)
        replace e4 := f8.old e4 (by kernel_rfl)
        replace e8 := f8.old e8 (by kernel_rfl)
        replace e13 := f8.old e13 (by kernel_rfl)
        have e26 : get a8 26 = (.bool (decide ((nth xs ((i : Int))).2 < (nth xs ((i : Int))).1))) := f8.v 10 rfl
        clear f8
        show Code.wp _ _ _ a8 w8
        refine wp_cond_split (t := decide ((nth xs ((i : Int))).2 < (nth xs ((i : Int))).1)) e26 (fun hc3 => ?_) (fun hc3 => ?_)
        · have hd3 := hc3; try simp only [Bool.and_eq_true, Bool.or_eq_true, decide_eq_true_eq, decide_eq_false_iff_not, Bool.not_eq_true', Bool.and_eq_false_iff, Bool.or_eq_false_iff, Bool.not_eq_false', Int.not_lt, Int.not_le, beq_iff_eq, spanB] at hd3
          refine wp_seq ?_
          refine region_St (bf := [0, 1, 3, 7, 15, 31, 63]) (sp := [
              (det (Nw w) 27 v),
                        (det (Nw w) 28 (.bool (apartF (isort ltS xs)))),
                        (det (Nw w) 29 (.bool (!(apartF (isort ltS xs))))),
                        (det (Nw w) 30 (.bool (!(apartF (isort ltS xs))))),
                        (gdet (Nw w) 31 ((!(apartF (isort ltS xs))) = true) (.bool (true))),
                        (det (Nw w) 32 (.bool ((!(apartF (isort ltS xs))) && true))),
                        (det (Nw w) 2 (.bool ((!(apartF (isort ltS xs))) && true)))])
            [] mixed st8 (by kernel_rfl) trivial
            ⟨Ob.det rfl rfl rfl (fun _ a_ _ _ c => r_move rfl (c.eo e0 (by kernel_rfl))),
                       Ob.call rfl rfl rfl (fun _ a_ _ _ c => ⟨_, _, (e_call1 rfl rfl Try.call17 (c.ev 0 rfl rfl)), apart_c v xs _ (hS.at (st8.ext.trans c.J.ext)) (by first | omega | (simp; done))⟩),
                       Ob.det rfl rfl rfl (fun _ a_ _ _ c => r_not rfl (c.ev 1 rfl rfl)),
                       Ob.det rfl rfl rfl (fun _ a_ _ _ c => r_move rfl (c.ev 2 rfl rfl)),
                       Ob.gcall rfl rfl rfl rfl (gi := 3) (tg := 30) rfl rfl Iff.rfl (fun _ a_ _ _ c hpc => ⟨_, _, (e_call0 rfl rfl Try.call11), awake_c _⟩),
                       Ob.det rfl rfl rfl (fun _ a_ _ _ c => r_and rfl (c.ev 3 rfl rfl) (fun h => (c.eg 4 rfl rfl h))),
                       Ob.det rfl rfl rfl (fun _ a_ _ _ c => r_assign rfl (c.ev 5 rfl rfl)),
             trivial⟩ ?_
          intro a9 w9 τ9 st9 f9
          replace e0 := f9.old e0 (by kernel_rfl)
          have e2 : get a9 2 = (.bool ((!(apartF (isort ltS xs))) && true)) := f9.v 6 rfl
          replace e3 := f9.old e3 (by kernel_rfl)
          replace e4 := f9.old e4 (by kernel_rfl)
          replace e8 := f9.old e8 (by kernel_rfl)
          replace e13 := f9.old e13 (by kernel_rfl)
          replace e26 := f9.old e26 (by kernel_rfl)
          clear f9
          show Code.wp _ _ _ a9 w9
          refine wp_ret ?_
          repeat (first | with_reducible refine then_ret ?_ | with_reducible refine block_ret ?_)
          refine ret1 (fn := Try.f7) rfl st9.defers e2 ?_
          exact ⟨congrArg _ (congrArg _ (show ((!(apartF (isort ltS xs))) && true) = true from by rw [apart_bad (k := i) (by omega) (by assumption)]; rfl)), st9.ext0⟩
        · have hd3 := hc3; try simp only [Bool.and_eq_true, Bool.or_eq_true, decide_eq_true_eq, decide_eq_false_iff_not, Bool.not_eq_true', Bool.and_eq_false_iff, Bool.or_eq_false_iff, Bool.not_eq_false', Int.not_lt, Int.not_le, beq_iff_eq, spanB] at hd3
          refine wp_skip ?_
          show Code.wp _ _ _ a8 w8
          refine wp_seq ?_
          refine region_St (bf := [0]) (sp := [
              (det (Nw w) 5 (.int .i64 (0)))])
            [] mixed st8 (by kernel_rfl) trivial
            ⟨Ob.det rfl rfl rfl (fun _ a_ _ _ c => r_assign rfl rfl),
             trivial⟩ ?_
          intro a10 w10 τ10 st10 f10
          replace e0 := f10.old e0 (by kernel_rfl)
          replace e3 := f10.old e3 (by kernel_rfl)
          replace e4 := f10.old e4 (by kernel_rfl)
          have e5 : get a10 5 = (.int .i64 (0)) := f10.v 0 rfl
          replace e8 := f10.old e8 (by kernel_rfl)
          replace e13 := f10.old e13 (by kernel_rfl)
          replace e26 := f10.old e26 (by kernel_rfl)
          clear f10
          show Code.wp _ _ _ a10 w10
          refine wp_block ?_
          refine wp_loop (fun a_ w_ => ∃ (j : Nat) (τ : Nat → Foot), (j ≤ i) ∧
                        St (Nw w) w 58 a_ w_ τ ∧
                        get a_ 3 = (.bool (allA xs i && allB xs i j)) ∧
                        get a_ 5 = (.int .i64 ((j : Int))) ∧
                        get a_ 0 = v ∧
                        get a_ 4 = (.int .i64 ((i : Int))) ∧
                        get a_ 8 = (.bool (decide (16 < (xs.length : Int)))) ∧
                        get a_ 13 = (.bool (decide ((i : Int) < (xs.length : Int)))) ∧
                        get a_ 26 = (.bool (decide ((nth xs ((i : Int))).2 < (nth xs ((i : Int))).1)))) (fun a_ _ => i - (intOf (get a_ 5)).toNat) ?_ ?_
          · refine ⟨0, τ10, ?_, st10, (e3.trans (congrArg _ (by simp [allB]))), (e5.trans (int_eq (by omega))), e0, e4, e8, e13, e26⟩
            · omega
          · intro a11 w11 hI
            obtain ⟨j, τ11, q0, st11, e3, e5, e0, e4, e8, e13, e26⟩ := hI
            have m5 := e5
            refine wp_seq ?_
            refine wp_seq ?_
            refine region_St (bf := [0, 0, 3]) (sp := [
                (det (Nw w) 33 (.int .i64 ((j : Int)))),
                            (det (Nw w) 34 (.int .i64 ((i : Int)))),
                            (det (Nw w) 35 (.bool (decide ((j : Int) < (i : Int)))))])
              [] mixed st11 (by kernel_rfl) trivial
              ⟨Ob.det rfl rfl rfl (fun _ a_ _ _ c => r_move rfl (c.eo e5 (by kernel_rfl))),
                           Ob.det rfl rfl rfl (fun _ a_ _ _ c => r_move rfl (c.eo e4 (by kernel_rfl))),
                           Ob.det rfl rfl rfl (fun _ a_ _ _ c => r_lss rfl (c.ev 0 rfl rfl) (c.ev 1 rfl rfl)),
               trivial⟩ ?_
            intro a12 w12 τ12 st12 f12
            replace e0 := f12.old e0 (by kernel_rfl)
            replace e3 := f12.old e3 (by kernel_rfl)
            replace e4 := f12.old e4 (by kernel_rfl)
            replace e5 := f12.old e5 (by kernel_rfl)
            replace e8 := f12.old e8 (by kernel_rfl)
            replace e13 := f12.old e13 (by kernel_rfl)
            replace e26 := f12.old e26 (by kernel_rfl)
            have e35 : get a12 35 = (.bool (decide ((j : Int) < (i : Int)))) := f12.v 2 rfl
            clear f12
            show Code.wp _ _ _ a12 w12
            refine wp_cond_split (t := decide ((j : Int) < (i : Int))) e35 (fun hc4 => ?_) (fun hc4 => ?_)
            · try simp only [Bool.and_eq_true, Bool.or_eq_true, decide_eq_true_eq, decide_eq_false_iff_not, Bool.not_eq_true', Bool.and_eq_false_iff, Bool.or_eq_false_iff, Bool.not_eq_false', Int.not_lt, Int.not_le, beq_iff_eq, spanB] at hc4
              refine wp_skip ?_
              show Code.wp _ _ _ a12 w12
              refine wp_seq ?_
              refine wp_block ?_
              refine region_St (bf := [0, 1, 3, 3, 15, 31, 3, 3, 195, 451, 1023, 2047, 4095, 8191]) (sp := [
                  (det (Nw w) 38 (.bool (allA xs i && allB xs i j))),
                                (det (Nw w) 39 (.bool (allA xs i && allB xs i j))),
                                (gdet (Nw w) 40 ((allA xs i && allB xs i j) = true) v),
                                (gdet (Nw w) 41 ((allA xs i && allB xs i j) = true) (.int .i64 ((j : Int)))),
                                (gdet (Nw w) 42 ((allA xs i && allB xs i j) = true) (.pointer (some ((ptrOf v).add (((j : Int) : Int).toNat * 2))))),
                                (gdet (Nw w) 43 ((allA xs i && allB xs i j) = true) (.agg #[(.int .i64 ((nth xs ((j : Int))).1)), (.int .i64 ((nth xs ((j : Int))).2))])),
                                (gdet (Nw w) 44 ((allA xs i && allB xs i j) = true) v),
                                (gdet (Nw w) 45 ((allA xs i && allB xs i j) = true) (.int .i64 ((i : Int)))),
                                (gdet (Nw w) 46 ((allA xs i && allB xs i j) = true) (.pointer (some ((ptrOf v).add (((i : Int) : Int).toNat * 2))))),
                                (gdet (Nw w) 47 ((allA xs i && allB xs i j) = true) (.agg #[(.int .i64 ((nth xs ((i : Int))).1)), (.int .i64 ((nth xs ((i : Int))).2))])),
                                (gown ((allA xs i && allB xs i j) = true) SpanE 29 (Nw w) 0 48 ([(nth xs ((j : Int))), (nth xs ((i : Int)))])),
                                (gdet (Nw w) 49 ((allA xs i && allB xs i j) = true) (.bool (apartF (isort ltS ([(nth xs ((j : Int))), (nth xs ((i : Int)))]))))),
                                (det (Nw w) 50 (.bool ((allA xs i && allB xs i j) && (apartF (isort ltS ([(nth xs ((j : Int))), (nth xs ((i : Int)))])))))),
                                (det (Nw w) 3 (.bool ((allA xs i && allB xs i j) && (apartF (isort ltS ([(nth xs ((j : Int))), (nth xs ((i : Int)))]))))))])
                [] mixed st12 (by kernel_rfl) trivial
                ⟨Ob.det rfl rfl rfl (fun _ a_ _ _ c => r_move rfl (c.eo e3 (by kernel_rfl))),
                               Ob.det rfl rfl rfl (fun _ a_ _ _ c => r_move rfl (c.ev 0 rfl rfl)),
                               Ob.gdet rfl rfl rfl rfl (gi := 1) (tg := 39) rfl rfl Iff.rfl (fun _ a_ _ _ c hpc => r_move rfl (c.eo e0 (by kernel_rfl))),
                               Ob.gdet rfl rfl rfl rfl (gi := 1) (tg := 39) rfl rfl Iff.rfl (fun _ a_ _ _ c hpc => r_move rfl (c.eo e5 (by kernel_rfl))),
                               Ob.gdet rfl rfl rfl rfl (gi := 1) (tg := 39) rfl rfl Iff.rfl (fun _ a_ _ _ c hpc => r_indexAddr rfl Try.underlying22 Try.sizeOf29 (c.eg 2 rfl rfl hpc) hS.sl (c.eg 3 rfl rfl hpc) (by have hq0 := hpc; (try simp only [Bool.and_eq_true, Bool.or_eq_true, decide_eq_true_eq, decide_eq_false_iff_not, Bool.not_eq_true', Bool.and_eq_false_iff, Bool.or_eq_false_iff, Bool.not_eq_false', Int.not_lt, Int.not_le, beq_iff_eq, spanB] at hq0); first | omega | (simp; done)) (by have hq0 := hpc; (try simp only [Bool.and_eq_true, Bool.or_eq_true, decide_eq_true_eq, decide_eq_false_iff_not, Bool.not_eq_true', Bool.and_eq_false_iff, Bool.or_eq_false_iff, Bool.not_eq_false', Int.not_lt, Int.not_le, beq_iff_eq, spanB] at hq0); first | omega | (simp; done))),
                               Ob.gdet rfl rfl rfl rfl (gi := 1) (tg := 39) rfl rfl Iff.rfl (fun _ a_ _ _ c hpc => r_loadN (vs := [(.int .i64 ((nth xs ((j : Int))).1)), (.int .i64 ((nth xs ((j : Int))).2))]) rfl Try.isAgg29 Try.sizeOf29 (c.eg 4 rfl rfl hpc) rfl (fun _ _ hj => ((hS.at (st12.ext.trans c.J.ext))).elem (nth_some (by have hq0 := hpc; (try simp only [Bool.and_eq_true, Bool.or_eq_true, decide_eq_true_eq, decide_eq_false_iff_not, Bool.not_eq_true', Bool.and_eq_false_iff, Bool.or_eq_false_iff, Bool.not_eq_false', Int.not_lt, Int.not_le, beq_iff_eq, spanB] at hq0); first | omega | (simp; done)) (by have hq0 := hpc; (try simp only [Bool.and_eq_true, Bool.or_eq_true, decide_eq_true_eq, decide_eq_false_iff_not, Bool.not_eq_true', Bool.and_eq_false_iff, Bool.or_eq_false_iff, Bool.not_eq_false', Int.not_lt, Int.not_le, beq_iff_eq, spanB] at hq0); first | omega | (simp; done))) hj)),
                               Ob.gdet rfl rfl rfl rfl (gi := 1) (tg := 39) rfl rfl Iff.rfl (fun _ a_ _ _ c hpc => r_move rfl (c.eo e0 (by kernel_rfl))),
                               Ob.gdet rfl rfl rfl rfl (gi := 1) (tg := 39) rfl rfl Iff.rfl (fun _ a_ _ _ c hpc => r_move rfl (c.eo e4 (by kernel_rfl))),
                               Ob.gdet rfl rfl rfl rfl (gi := 1) (tg := 39) rfl rfl Iff.rfl (fun _ a_ _ _ c hpc => r_indexAddr rfl Try.underlying22 Try.sizeOf29 (c.eg 6 rfl rfl hpc) hS.sl (c.eg 7 rfl rfl hpc) (by have hq0 := hpc; (try simp only [Bool.and_eq_true, Bool.or_eq_true, decide_eq_true_eq, decide_eq_false_iff_not, Bool.not_eq_true', Bool.and_eq_false_iff, Bool.or_eq_false_iff, Bool.not_eq_false', Int.not_lt, Int.not_le, beq_iff_eq, spanB] at hq0); first | omega | (simp; done)) (by have hq0 := hpc; (try simp only [Bool.and_eq_true, Bool.or_eq_true, decide_eq_true_eq, decide_eq_false_iff_not, Bool.not_eq_true', Bool.and_eq_false_iff, Bool.or_eq_false_iff, Bool.not_eq_false', Int.not_lt, Int.not_le, beq_iff_eq, spanB] at hq0); first | omega | (simp; done))),
                               Ob.gdet rfl rfl rfl rfl (gi := 1) (tg := 39) rfl rfl Iff.rfl (fun _ a_ _ _ c hpc => r_loadN (vs := [(.int .i64 ((nth xs ((i : Int))).1)), (.int .i64 ((nth xs ((i : Int))).2))]) rfl Try.isAgg29 Try.sizeOf29 (c.eg 8 rfl rfl hpc) rfl (fun _ _ hj => ((hS.at (st12.ext.trans c.J.ext))).elem (nth_some (by have hq0 := hpc; (try simp only [Bool.and_eq_true, Bool.or_eq_true, decide_eq_true_eq, decide_eq_false_iff_not, Bool.not_eq_true', Bool.and_eq_false_iff, Bool.or_eq_false_iff, Bool.not_eq_false', Int.not_lt, Int.not_le, beq_iff_eq, spanB] at hq0); first | omega | (simp; done)) (by have hq0 := hpc; (try simp only [Bool.and_eq_true, Bool.or_eq_true, decide_eq_true_eq, decide_eq_false_iff_not, Bool.not_eq_true', Bool.and_eq_false_iff, Bool.or_eq_false_iff, Bool.not_eq_false', Int.not_lt, Int.not_le, beq_iff_eq, spanB] at hq0); first | omega | (simp; done))) hj)),
                               Ob.gown (gi := 1) (tg := 39) rfl rfl rfl rfl rfl rfl Iff.rfl (fun hpc => Ob.buildSlice (cells := #[(.int .i64 ((nth xs ((j : Int))).1)), (.int .i64 ((nth xs ((j : Int))).2)), (.int .i64 ((nth xs ((i : Int))).1)), (.int .i64 ((nth xs ((i : Int))).2))]) rfl rfl rfl rfl Try.underlying22 Try.sizeOf29 Try.zeroValue29 rfl (by decide) (by decide) (fun _ a_ _ _ c => by simp only [List.map_toArray, List.map_cons, List.map_nil, (show a_.eval (.tmp 43) = (.agg #[(.int .i64 ((nth xs ((j : Int))).1)), (.int .i64 ((nth xs ((j : Int))).2))]) from (c.eg 5 rfl rfl hpc)), (show a_.eval (.tmp 47) = (.agg #[(.int .i64 ((nth xs ((i : Int))).1)), (.int .i64 ((nth xs ((i : Int))).2))]) from (c.eg 9 rfl rfl hpc))]; kernel_rfl) rfl),
                               Ob.gcall rfl rfl rfl rfl (gi := 1) (tg := 39) rfl rfl Iff.rfl (fun _ a_ _ _ c hpc => ⟨_, _, (e_call1 rfl rfl Try.call17 (eval_tmp _ 48)), apart_c _ ([(nth xs ((j : Int))), (nth xs ((i : Int)))]) _ (c.rgown 10 rfl rfl (by kernel_rfl) hpc).1.sl (by have hq0 := hpc; (try simp only [Bool.and_eq_true, Bool.or_eq_true, decide_eq_true_eq, decide_eq_false_iff_not, Bool.not_eq_true', Bool.and_eq_false_iff, Bool.or_eq_false_iff, Bool.not_eq_false', Int.not_lt, Int.not_le, beq_iff_eq, spanB] at hq0); first | omega | (simp; done))⟩),
                               Ob.det rfl rfl rfl (fun _ a_ _ _ c => r_and rfl (c.ev 1 rfl rfl) (fun h => (c.eg 11 rfl rfl h))),
                               Ob.det rfl rfl rfl (fun _ a_ _ _ c => r_assign rfl (c.ev 12 rfl rfl)),
                 trivial⟩ ?_
              intro a13 w13 τ13 st13 f13
              replace e0 := f13.old e0 (by kernel_rfl)
              have e3 : get a13 3 = (.bool ((allA xs i && allB xs i j) && (apartF (isort ltS ([(nth xs ((j : Int))), (nth xs ((i : Int)))]))))) := f13.v 13 rfl
              replace e4 := f13.old e4 (by kernel_rfl)
              replace e5 := f13.old e5 (by kernel_rfl)
              replace e8 := f13.old e8 (by kernel_rfl)
              replace e13 := f13.old e13 (by kernel_rfl)
              replace e26 := f13.old e26 (by kernel_rfl)
              replace e35 := f13.old e35 (by kernel_rfl)
              clear f13
              show _
              show Code.wp _ _ _ a13 w13
              refine region_St (bf := [0, 1, 3]) (sp := [
                  (det (Nw w) 36 (.int .i64 ((j : Int)))),
                                (det (Nw w) 37 (.int .i64 ((j : Int) + 1))),
                                (det (Nw w) 5 (.int .i64 ((j : Int) + 1)))])
                [] mixed st13 (by kernel_rfl) trivial
                ⟨Ob.det rfl rfl rfl (fun _ a_ _ _ c => r_move rfl (c.eo e5 (by kernel_rfl))),
                               Ob.det rfl rfl rfl (fun _ a_ _ _ c => r_add rfl (c.ev 0 rfl rfl) rfl (by first | omega | (simp; done))),
                               Ob.det rfl rfl rfl (fun _ a_ _ _ c => r_assign rfl (c.ev 1 rfl rfl)),
                 trivial⟩ ?_
              intro a14 w14 τ14 st14 f14
              replace e0 := f14.old e0 (by kernel_rfl)
              replace e3 := f14.old e3 (by kernel_rfl)
              replace e4 := f14.old e4 (by kernel_rfl)
              have e5 : get a14 5 = (.int .i64 ((j : Int) + 1)) := f14.v 2 rfl
              replace e8 := f14.old e8 (by kernel_rfl)
              replace e13 := f14.old e13 (by kernel_rfl)
              replace e26 := f14.old e26 (by kernel_rfl)
              replace e35 := f14.old e35 (by kernel_rfl)
              clear f14
              refine ⟨⟨j + 1, τ14, ?_, st14, (e3.trans (congrArg _ (by rw [allB_succ, Bool.and_assoc]))), (e5.trans (int_eq (by omega))), e0, e4, e8, e13, e26⟩, ?_⟩
              · omega
              · simp only [m5, e5, intOf]; omega
            · try simp only [Bool.and_eq_true, Bool.or_eq_true, decide_eq_true_eq, decide_eq_false_iff_not, Bool.not_eq_true', Bool.and_eq_false_iff, Bool.or_eq_false_iff, Bool.not_eq_false', Int.not_lt, Int.not_le, beq_iff_eq, spanB] at hc4
              refine wp_exit ?_
              repeat (with_reducible refine then_exit ?_)
              refine exit_here ?_
              show _
              show Code.wp _ _ _ a12 w12
              refine region_St (bf := [0, 1, 3]) (sp := [
                  (det (Nw w) 14 (.int .i64 ((i : Int)))),
                                (det (Nw w) 15 (.int .i64 ((i : Int) + 1))),
                                (det (Nw w) 4 (.int .i64 ((i : Int) + 1)))])
                [] mixed st12 (by kernel_rfl) trivial
                ⟨Ob.det rfl rfl rfl (fun _ a_ _ _ c => r_move rfl (c.eo e4 (by kernel_rfl))),
                               Ob.det rfl rfl rfl (fun _ a_ _ _ c => r_add rfl (c.ev 0 rfl rfl) rfl (by first | omega | (simp; done))),
                               Ob.det rfl rfl rfl (fun _ a_ _ _ c => r_assign rfl (c.ev 1 rfl rfl)),
                 trivial⟩ ?_
              intro a15 w15 τ15 st15 f15
              replace e0 := f15.old e0 (by kernel_rfl)
              replace e3 := f15.old e3 (by kernel_rfl)
              have e4 : get a15 4 = (.int .i64 ((i : Int) + 1)) := f15.v 2 rfl
              replace e5 := f15.old e5 (by kernel_rfl)
              replace e8 := f15.old e8 (by kernel_rfl)
              replace e13 := f15.old e13 (by kernel_rfl)
              replace e26 := f15.old e26 (by kernel_rfl)
              replace e35 := f15.old e35 (by kernel_rfl)
              clear f15
              refine ⟨⟨i + 1, τ15, ?_, ?_, st15, (e3.trans (congrArg _ (by rw [allA_succ]; rw [show j = i by omega]))), (e4.trans (int_eq (by omega))), e0, e8⟩, ?_⟩
              · omega
              · intro j_ hj_
                by_cases e_ : j_ = i
                · subst e_; exact Int.not_lt.1 (of_decide_eq_false (by assumption))
                · exact q1 j_ (by omega)
              · simp only [m4, e4, intOf]; omega
      · try simp only [Bool.and_eq_true, Bool.or_eq_true, decide_eq_true_eq, decide_eq_false_iff_not, Bool.not_eq_true', Bool.and_eq_false_iff, Bool.or_eq_false_iff, Bool.not_eq_false', Int.not_lt, Int.not_le, beq_iff_eq, spanB] at hc2
        refine wp_exit ?_
        repeat (with_reducible refine then_exit ?_)
        refine exit_here ?_
        show Code.wp _ _ _ a7 w7
        refine wp_seq ?_
        refine region_St (bf := [0, 1, 0, 7, 15, 31, 63, 127]) (sp := [
            (det (Nw w) 51 v),
                    (det (Nw w) 52 (.bool (apartF (isort ltS xs)))),
                    (det (Nw w) 53 (.bool (allA xs i))),
                    (det (Nw w) 54 (.bool ((apartF (isort ltS xs)) == (allA xs i)))),
                    (det (Nw w) 55 (.bool ((apartF (isort ltS xs)) == (allA xs i)))),
                    (gdet (Nw w) 56 (((apartF (isort ltS xs)) == (allA xs i)) = true) (.bool (true))),
                    (det (Nw w) 57 (.bool (((apartF (isort ltS xs)) == (allA xs i)) && true))),
                    (det (Nw w) 2 (.bool (((apartF (isort ltS xs)) == (allA xs i)) && true)))])
          [] mixed st7 (by kernel_rfl) trivial
          ⟨Ob.det rfl rfl rfl (fun _ a_ _ _ c => r_move rfl (c.eo e0 (by kernel_rfl))),
                   Ob.call rfl rfl rfl (fun _ a_ _ _ c => ⟨_, _, (e_call1 rfl rfl Try.call17 (c.ev 0 rfl rfl)), apart_c v xs _ (hS.at (st7.ext.trans c.J.ext)) (by first | omega | (simp; done))⟩),
                   Ob.det rfl rfl rfl (fun _ a_ _ _ c => r_move rfl (c.eo e3 (by kernel_rfl))),
                   Ob.det rfl rfl rfl (fun _ a_ _ _ c => r_beql rfl Try.underlying4 (c.ev 1 rfl rfl) (c.ev 2 rfl rfl)),
                   Ob.det rfl rfl rfl (fun _ a_ _ _ c => r_move rfl (c.ev 3 rfl rfl)),
                   Ob.gcall rfl rfl rfl rfl (gi := 4) (tg := 55) rfl rfl Iff.rfl (fun _ a_ _ _ c hpc => ⟨_, _, (e_call0 rfl rfl Try.call11), awake_c _⟩),
                   Ob.det rfl rfl rfl (fun _ a_ _ _ c => r_and rfl (c.ev 4 rfl rfl) (fun h => (c.eg 5 rfl rfl h))),
                   Ob.det rfl rfl rfl (fun _ a_ _ _ c => r_assign rfl (c.ev 6 rfl rfl)),
           trivial⟩ ?_
        intro a16 w16 τ16 st16 f16
        replace e0 := f16.old e0 (by kernel_rfl)
        have e2 : get a16 2 = (.bool (((apartF (isort ltS xs)) == (allA xs i)) && true)) := f16.v 7 rfl
        replace e3 := f16.old e3 (by kernel_rfl)
        replace e4 := f16.old e4 (by kernel_rfl)
        replace e8 := f16.old e8 (by kernel_rfl)
        replace e13 := f16.old e13 (by kernel_rfl)
        clear f16
        show Code.wp _ _ _ a16 w16
        refine wp_ret ?_
        repeat (first | with_reducible refine then_ret ?_ | with_reducible refine block_ret ?_)
        refine ret1 (fn := Try.f7) rfl st16.defers e2 ?_
        exact ⟨congrArg _ (congrArg _ (show (((apartF (isort ltS xs)) == (allA xs i)) && true) = true from by rw [apart_allA (k := i) (by omega) p1 (by omega)]; simp)), st16.ext0⟩

set_option maxRecDepth 100000 in
theorem unionCovers_c (v : Value) (xs : List (Int × Int)) (n : Int) (w : World) (hS : SlT SpanE w v xs) : Calls Try.prog 4 #[v, (.int .i64 (n))] w (fun e w' => e = .returned (.bool (true)) ∧ Ext none' w w') := by
  refine enter (n := 97) Try.func4 rfl rfl (Nat.le_of_ble_eq_true rfl) ?_
  intro a0 τ0 ha st0
  have e0 : get a0 0 = v := ha 0 _ rfl
  have e1 : get a0 1 = (.int .i64 (n)) := ha 1 _ rfl
  clear ha
  have hle := hS.le
  refine wp_seq ?_
  refine region_St (bf := [0]) (sp := [
      (det (Nw w) 4 (.bool (false)))])
    [] mixed st0 (by kernel_rfl) trivial
    ⟨Ob.det rfl rfl rfl (fun _ a_ _ _ c => r_assign rfl rfl),
     trivial⟩ ?_
  intro a1 w1 τ1 st1 f1
  replace e0 := f1.old e0 (by kernel_rfl)
  replace e1 := f1.old e1 (by kernel_rfl)
  have e4 : get a1 4 = (.bool (false)) := f1.v 0 rfl
  clear f1
  show Code.wp _ _ _ a1 w1
  refine wp_seq ?_
  refine wp_seq ?_
  refine region_St (bf := [0, 1, 3]) (sp := [
      (det (Nw w) 10 v),
        (det (Nw w) 11 (.int .i64 ((xs.length : Int)))),
        (det (Nw w) 12 (.bool (decide (40 < (xs.length : Int)))))])
    [] mixed st1 (by kernel_rfl) trivial
    ⟨Ob.det rfl rfl rfl (fun _ a_ _ _ c => r_move rfl (c.eo e0 (by kernel_rfl))),
       Ob.det rfl rfl rfl (fun _ a_ _ _ c => r_len rfl Try.underlying22 (c.ev 0 rfl rfl) hS.sl),
       Ob.det rfl rfl rfl (fun _ a_ _ _ c => r_gtr rfl (c.ev 1 rfl rfl) rfl),
     trivial⟩ ?_
  intro a2 w2 τ2 st2 f2
  replace e0 := f2.old e0 (by kernel_rfl)
  replace e1 := f2.old e1 (by kernel_rfl)
  replace e4 := f2.old e4 (by kernel_rfl)
  have e12 : get a2 12 = (.bool (decide (40 < (xs.length : Int)))) := f2.v 2 rfl
  clear f2
  show Code.wp _ _ _ a2 w2
  refine wp_cond_split (t := decide (40 < (xs.length : Int))) e12 (fun hc1 => ?_) (fun hc1 => ?_)
  · try simp only [Bool.and_eq_true, Bool.or_eq_true, decide_eq_true_eq, decide_eq_false_iff_not, Bool.not_eq_true', Bool.and_eq_false_iff, Bool.or_eq_false_iff, Bool.not_eq_false', Int.not_lt, Int.not_le, beq_iff_eq, spanB] at hc1
    refine wp_seq ?_
    refine region_St (bf := [0, 1]) (sp := [
        (det (Nw w) 13 (.bool (true))),
            (det (Nw w) 4 (.bool (true)))])
      [] mixed st2 (by kernel_rfl) trivial
      ⟨Ob.call rfl rfl rfl (fun _ a_ _ _ c => ⟨_, _, (e_call0 rfl rfl Try.call11), awake_c _⟩),
           Ob.det rfl rfl rfl (fun _ a_ _ _ c => r_assign rfl (c.ev 0 rfl rfl)),
       trivial⟩ ?_
    intro a3 w3 τ3 st3 f3
    replace e0 := f3.old e0 (by kernel_rfl)
    replace e1 := f3.old e1 (by kernel_rfl)
    have e4 : get a3 4 = (.bool (true)) := f3.v 1 rfl
    replace e12 := f3.old e12 (by kernel_rfl)
    clear f3
    show Code.wp _ _ _ a3 w3
    refine wp_ret ?_
    repeat (first | with_reducible refine then_ret ?_ | with_reducible refine block_ret ?_)
    refine ret1 (fn := Try.f4) rfl st3.defers e4 ?_
    exact ⟨rfl, st3.ext0⟩
  · try simp only [Bool.and_eq_true, Bool.or_eq_true, decide_eq_true_eq, decide_eq_false_iff_not, Bool.not_eq_true', Bool.and_eq_false_iff, Bool.or_eq_false_iff, Bool.not_eq_false', Int.not_lt, Int.not_le, beq_iff_eq, spanB] at hc1
    refine wp_skip ?_
    show Code.wp _ _ _ a2 w2
    refine wp_seq ?_
    refine region_St (bf := [0, 1, 3]) (sp := [
        (det (Nw w) 14 v),
            (own SpanE 29 (Nw w) 1 15 (unionF xs)),
            (own SpanE 29 (Nw w) 1 5 (unionF xs))])
      [] mixed st2 (by kernel_rfl) trivial
      ⟨Ob.det rfl rfl rfl (fun _ a_ _ _ c => r_move rfl (c.eo e0 (by kernel_rfl))),
           Ob.callOwn rfl rfl rfl (fun _ a_ _ _ c => ⟨_, _, (e_call1 rfl rfl Try.call13 (c.ev 0 rfl rfl)), union_c v xs _ (hS.at (st2.ext.trans c.J.ext)) (by omega)⟩),
           Ob.moveT (t0 := 15) rfl rfl rfl rfl rfl (.inr rfl) (fun _ _ _ _ c => ⟨c.rown 1 rfl rfl (by kernel_rfl), rfl⟩),
       trivial⟩ ?_
    intro a4 w4 τ4 st4 f4
    obtain ⟨b4x5, e5⟩ : ∃ b, get a4 5 = b := ⟨_, rfl⟩
    replace e0 := f4.old e0 (by kernel_rfl)
    replace e1 := f4.old e1 (by kernel_rfl)
    replace e4 := f4.old e4 (by kernel_rfl)
    replace e12 := f4.old e12 (by kernel_rfl)
    have r1 : ownR SpanE 29 (unionF xs) (τ4 1) b4x5 w4 := f4.rown 2 rfl rfl e5
    clear f4
    have hul := unionF_le xs
    show Code.wp _ _ _ a4 w4
    refine wp_seq ?_
    refine region_St (bf := [0, 1]) (sp := [
        (det (Nw w) 6 (.bool (false))),
            (det (Nw w) 7 (.bool (false)))])
      [(Ini.any (Nw w)), (iown SpanE 29 (Nw w) b4x5 (unionF xs))] mixed st4 (by kernel_rfl) ⟨trivial, r1, trivial⟩
      ⟨Ob.det rfl rfl rfl (fun _ a_ _ _ c => r_assign rfl rfl),
           Ob.det rfl rfl rfl (fun _ a_ _ _ c => r_assign rfl rfl),
       trivial⟩ ?_
    intro a5 w5 τ5 st5 f5
    replace e0 := f5.old e0 (by kernel_rfl)
    replace e1 := f5.old e1 (by kernel_rfl)
    replace e4 := f5.old e4 (by kernel_rfl)
    replace e5 := f5.old e5 (by kernel_rfl)
    have e6 : get a5 6 = (.bool (false)) := f5.v 0 rfl
    have e7 : get a5 7 = (.bool (false)) := f5.v 1 rfl
    replace e12 := f5.old e12 (by kernel_rfl)
    replace r1 : ownR SpanE 29 (unionF xs) (τ5 1) b4x5 w5 := f5.iown 1 rfl rfl
    clear f5
    show Code.wp _ _ _ a5 w5
    refine wp_seq ?_
    refine wp_seq ?_
    refine region_St (bf := [0]) (sp := [
        (det (Nw w) 8 (.int .i64 (0)))])
      [(Ini.any (Nw w)), (iown SpanE 29 (Nw w) b4x5 (unionF xs))] mixed st5 (by kernel_rfl) ⟨trivial, r1, trivial⟩
      ⟨Ob.det rfl rfl rfl (fun _ a_ _ _ c => r_assign rfl rfl),
       trivial⟩ ?_
    intro a6 w6 τ6 st6 f6
    replace e0 := f6.old e0 (by kernel_rfl)
    replace e1 := f6.old e1 (by kernel_rfl)
    replace e4 := f6.old e4 (by kernel_rfl)
    replace e5 := f6.old e5 (by kernel_rfl)
    replace e6 := f6.old e6 (by kernel_rfl)
    replace e7 := f6.old e7 (by kernel_rfl)
    have e8 : get a6 8 = (.int .i64 (0)) := f6.v 0 rfl
    replace e12 := f6.old e12 (by kernel_rfl)
    replace r1 : ownR SpanE 29 (unionF xs) (τ6 1) b4x5 w6 := f6.iown 1 rfl rfl
    clear f6
    show Code.wp _ _ _ a6 w6
    refine wp_block ?_
    refine wp_loop (fun a_ w_ => ∃ (k : Nat) (τ : Nat → Foot), (k ≤ xs.length) ∧
            St (Nw w) w 97 a_ w_ τ ∧
            get a_ 6 = (.bool ((xs.take k).any (fun p => hasB p n))) ∧
            get a_ 8 = (.int .i64 ((k : Int))) ∧
            get a_ 0 = v ∧
            get a_ 1 = (.int .i64 (n)) ∧
            get a_ 4 = (.bool (false)) ∧
            get a_ 5 = b4x5 ∧
            get a_ 7 = (.bool (false)) ∧
            get a_ 12 = (.bool (decide (40 < (xs.length : Int)))) ∧
            ownR SpanE 29 (unionF xs) (τ 1) b4x5 w_) (fun a_ _ => xs.length - (intOf (get a_ 8)).toNat) ?_ ?_
    · refine ⟨0, τ6, ?_, st6, (e6.trans (congrArg _ (by rfl))), (e8.trans (int_eq (by omega))), e0, e1, e4, e5, e7, e12, r1⟩
      · omega
    · intro a7 w7 hI
      obtain ⟨k, τ7, q0, st7, e6, e8, e0, e1, e4, e5, e7, e12, r1⟩ := hI
      have m8 := e8
      refine wp_seq ?_
      refine wp_seq ?_
      refine region_St (bf := [0, 0, 2, 7]) (sp := [
          (det (Nw w) 16 (.int .i64 ((k : Int)))),
                (det (Nw w) 17 v),
                (det (Nw w) 18 (.int .i64 ((xs.length : Int)))),
                (det (Nw w) 19 (.bool (decide ((k : Int) < (xs.length : Int)))))])
        [(Ini.any (Nw w)), (iown SpanE 29 (Nw w) b4x5 (unionF xs))] mixed st7 (by kernel_rfl) ⟨trivial, r1, trivial⟩
        ⟨Ob.det rfl rfl rfl (fun _ a_ _ _ c => r_move rfl (c.eo e8 (by kernel_rfl))),
               Ob.det rfl rfl rfl (fun _ a_ _ _ c => r_move rfl (c.eo e0 (by kernel_rfl))),
               Ob.det rfl rfl rfl (fun _ a_ _ _ c => r_len rfl Try.underlying22 (c.ev 1 rfl rfl) hS.sl),
               Ob.det rfl rfl rfl (fun _ a_ _ _ c => r_lss rfl (c.ev 0 rfl rfl) (c.ev 2 rfl rfl)),
         trivial⟩ ?_
      intro a8 w8 τ8 st8 f8
      replace e0 := f8.old e0 (by kernel_rfl)
      replace e1 := f8.old e1 (by kernel_rfl)
      replace e4 := f8.old e4 (by kernel_rfl)
      replace e5 := f8.old e5 (by kernel_rfl)
      replace e6 := f8.old e6 (by kernel_rfl)
      replace e7 := f8.old e7 (by kernel_rfl)
      replace e8 := f8.old e8 (by kernel_rfl)
      replace e12 := f8.old e12 (by kernel_rfl)
      have e19 : get a8 19 = (.bool (decide ((k : Int) < (xs.length : Int)))) := f8.v 3 rfl
      replace r1 : ownR SpanE 29 (unionF xs) (τ8 1) b4x5 w8 := f8.iown 1 rfl rfl
      clear f8
      show Code.wp _ _ _ a8 w8
      refine wp_cond_split (t := decide ((k : Int) < (xs.length : Int))) e19 (fun hc2 => ?_) (fun hc2 => ?_)
      · try simp only [Bool.and_eq_true, Bool.or_eq_true, decide_eq_true_eq, decide_eq_false_iff_not, Bool.not_eq_true', Bool.and_eq_false_iff, Bool.or_eq_false_iff, Bool.not_eq_false', Int.not_lt, Int.not_le, beq_iff_eq, spanB] at hc2
        refine wp_skip ?_
        show Code.wp _ _ _ a8 w8
        refine wp_seq ?_
        refine wp_block ?_
        refine region_St (bf := [0, 1, 3, 3, 15, 31, 63, 3, 255, 511, 1023, 1023, 1023, 7167, 15359, 31743, 65535, 131071, 262143, 524287]) (sp := [
            (det (Nw w) 22 (.bool ((xs.take k).any (fun p => hasB p n)))),
                    (det (Nw w) 23 (.bool ((xs.take k).any (fun p => hasB p n)))),
                    (gdet (Nw w) 24 (((xs.take k).any (fun p => hasB p n)) = false) v),
                    (gdet (Nw w) 25 (((xs.take k).any (fun p => hasB p n)) = false) (.int .i64 ((k : Int)))),
                    (gdet (Nw w) 26 (((xs.take k).any (fun p => hasB p n)) = false) (.pointer (some ((ptrOf v).add (((k : Int) : Int).toNat * 2))))),
                    (gdet (Nw w) 27 (((xs.take k).any (fun p => hasB p n)) = false) (.pointer (some (((ptrOf v).add (((k : Int) : Int).toNat * 2)).add 0)))),
                    (gdet (Nw w) 28 (((xs.take k).any (fun p => hasB p n)) = false) (.int .i64 ((nth xs ((k : Int))).1))),
                    (gdet (Nw w) 29 (((xs.take k).any (fun p => hasB p n)) = false) (.int .i64 (n))),
                    (gdet (Nw w) 30 (((xs.take k).any (fun p => hasB p n)) = false) (.bool (decide ((nth xs ((k : Int))).1 ≤ n)))),
                    (gdet (Nw w) 31 (((xs.take k).any (fun p => hasB p n)) = false) (.bool (decide ((nth xs ((k : Int))).1 ≤ n)))),
                    (gdet (Nw w) 32 ((((xs.take k).any (fun p => hasB p n)) = false) ∧ (decide ((nth xs ((k : Int))).1 ≤ n)) = true) (.int .i64 (n))),
                    (gdet (Nw w) 33 ((((xs.take k).any (fun p => hasB p n)) = false) ∧ (decide ((nth xs ((k : Int))).1 ≤ n)) = true) v),
                    (gdet (Nw w) 34 ((((xs.take k).any (fun p => hasB p n)) = false) ∧ (decide ((nth xs ((k : Int))).1 ≤ n)) = true) (.int .i64 ((k : Int)))),
                    (gdet (Nw w) 35 ((((xs.take k).any (fun p => hasB p n)) = false) ∧ (decide ((nth xs ((k : Int))).1 ≤ n)) = true) (.pointer (some ((ptrOf v).add (((k : Int) : Int).toNat * 2))))),
                    (gdet (Nw w) 36 ((((xs.take k).any (fun p => hasB p n)) = false) ∧ (decide ((nth xs ((k : Int))).1 ≤ n)) = true) (.pointer (some (((ptrOf v).add (((k : Int) : Int).toNat * 2)).add 1)))),
                    (gdet (Nw w) 37 ((((xs.take k).any (fun p => hasB p n)) = false) ∧ (decide ((nth xs ((k : Int))).1 ≤ n)) = true) (.int .i64 ((nth xs ((k : Int))).2))),
                    (gdet (Nw w) 38 ((((xs.take k).any (fun p => hasB p n)) = false) ∧ (decide ((nth xs ((k : Int))).1 ≤ n)) = true) (.bool (decide (n ≤ (nth xs ((k : Int))).2)))),
                    (gdet (Nw w) 39 (((xs.take k).any (fun p => hasB p n)) = false) (.bool ((decide ((nth xs ((k : Int))).1 ≤ n)) && (decide (n ≤ (nth xs ((k : Int))).2))))),
                    (det (Nw w) 40 (.bool (((xs.take k).any (fun p => hasB p n)) || ((decide ((nth xs ((k : Int))).1 ≤ n)) && (decide (n ≤ (nth xs ((k : Int))).2)))))),
                    (det (Nw w) 6 (.bool (((xs.take k).any (fun p => hasB p n)) || ((decide ((nth xs ((k : Int))).1 ≤ n)) && (decide (n ≤ (nth xs ((k : Int))).2))))))])
          [(Ini.any (Nw w)), (iown SpanE 29 (Nw w) b4x5 (unionF xs))] mixed st8 (by kernel_rfl) ⟨trivial, r1, trivial⟩
          ⟨Ob.det rfl rfl rfl (fun _ a_ _ _ c => r_move rfl (c.eo e6 (by kernel_rfl))),
                   Ob.det rfl rfl rfl (fun _ a_ _ _ c => r_move rfl (c.ev 0 rfl rfl)),
                   Ob.gdet rfl rfl rfl rfl (gi := 1) (tg := 23) rfl rfl Iff.rfl (fun _ a_ _ _ c hpc => r_move rfl (c.eo e0 (by kernel_rfl))),
                   Ob.gdet rfl rfl rfl rfl (gi := 1) (tg := 23) rfl rfl Iff.rfl (fun _ a_ _ _ c hpc => r_move rfl (c.eo e8 (by kernel_rfl))),
                   Ob.gdet rfl rfl rfl rfl (gi := 1) (tg := 23) rfl rfl Iff.rfl (fun _ a_ _ _ c hpc => r_indexAddr rfl Try.underlying22 Try.sizeOf29 (c.eg 2 rfl rfl hpc) hS.sl (c.eg 3 rfl rfl hpc) (by have hq0 := hpc; (try simp only [Bool.and_eq_true, Bool.or_eq_true, decide_eq_true_eq, decide_eq_false_iff_not, Bool.not_eq_true', Bool.and_eq_false_iff, Bool.or_eq_false_iff, Bool.not_eq_false', Int.not_lt, Int.not_le, beq_iff_eq, spanB] at hq0); omega) (by have hq0 := hpc; (try simp only [Bool.and_eq_true, Bool.or_eq_true, decide_eq_true_eq, decide_eq_false_iff_not, Bool.not_eq_true', Bool.and_eq_false_iff, Bool.or_eq_false_iff, Bool.not_eq_false', Int.not_lt, Int.not_le, beq_iff_eq, spanB] at hq0); omega)),
                   Ob.gdet rfl rfl rfl rfl (gi := 1) (tg := 23) rfl rfl Iff.rfl (fun _ a_ _ _ c hpc => r_fieldAddr rfl Try.underlying29 rfl rfl Try.sizeOf3 (c.eg 4 rfl rfl hpc)),
                   Ob.gdet rfl rfl rfl rfl (gi := 1) (tg := 23) rfl rfl Iff.rfl (fun _ a_ _ _ c hpc => r_load1 rfl Try.isAgg3 (c.eg 5 rfl rfl hpc) (((hS.at (st8.ext.trans c.J.ext))).elem (j := 0) (nth_some (by have hq0 := hpc; (try simp only [Bool.and_eq_true, Bool.or_eq_true, decide_eq_true_eq, decide_eq_false_iff_not, Bool.not_eq_true', Bool.and_eq_false_iff, Bool.or_eq_false_iff, Bool.not_eq_false', Int.not_lt, Int.not_le, beq_iff_eq, spanB] at hq0); omega) (by have hq0 := hpc; (try simp only [Bool.and_eq_true, Bool.or_eq_true, decide_eq_true_eq, decide_eq_false_iff_not, Bool.not_eq_true', Bool.and_eq_false_iff, Bool.or_eq_false_iff, Bool.not_eq_false', Int.not_lt, Int.not_le, beq_iff_eq, spanB] at hq0); omega)) rfl)),
                   Ob.gdet rfl rfl rfl rfl (gi := 1) (tg := 23) rfl rfl Iff.rfl (fun _ a_ _ _ c hpc => r_move rfl (c.eo e1 (by kernel_rfl))),
                   Ob.gdet rfl rfl rfl rfl (gi := 1) (tg := 23) rfl rfl Iff.rfl (fun _ a_ _ _ c hpc => r_leq rfl (c.eg 6 rfl rfl hpc) (c.eg 7 rfl rfl hpc)),
                   Ob.gdet rfl rfl rfl rfl (gi := 1) (tg := 23) rfl rfl Iff.rfl (fun _ a_ _ _ c hpc => r_move rfl (c.eg 8 rfl rfl hpc)),
                   Ob.ggdet rfl rfl rfl rfl (gi := 9) (tg := 31) rfl rfl Iff.rfl (fun _ a_ _ _ c hpc => r_move rfl (c.eo e1 (by kernel_rfl))),
                   Ob.ggdet rfl rfl rfl rfl (gi := 9) (tg := 31) rfl rfl Iff.rfl (fun _ a_ _ _ c hpc => r_move rfl (c.eo e0 (by kernel_rfl))),
                   Ob.ggdet rfl rfl rfl rfl (gi := 9) (tg := 31) rfl rfl Iff.rfl (fun _ a_ _ _ c hpc => r_move rfl (c.eo e8 (by kernel_rfl))),
                   Ob.ggdet rfl rfl rfl rfl (gi := 9) (tg := 31) rfl rfl Iff.rfl (fun _ a_ _ _ c hpc => r_indexAddr rfl Try.underlying22 Try.sizeOf29 (c.eg 11 rfl rfl hpc) hS.sl (c.eg 12 rfl rfl hpc) (by have hq0 := hpc.2; have hq1 := hpc.1; (try simp only [Bool.and_eq_true, Bool.or_eq_true, decide_eq_true_eq, decide_eq_false_iff_not, Bool.not_eq_true', Bool.and_eq_false_iff, Bool.or_eq_false_iff, Bool.not_eq_false', Int.not_lt, Int.not_le, beq_iff_eq, spanB] at hq0 hq1); omega) (by have hq0 := hpc.2; have hq1 := hpc.1; (try simp only [Bool.and_eq_true, Bool.or_eq_true, decide_eq_true_eq, decide_eq_false_iff_not, Bool.not_eq_true', Bool.and_eq_false_iff, Bool.or_eq_false_iff, Bool.not_eq_false', Int.not_lt, Int.not_le, beq_iff_eq, spanB] at hq0 hq1); omega)),
                   Ob.ggdet rfl rfl rfl rfl (gi := 9) (tg := 31) rfl rfl Iff.rfl (fun _ a_ _ _ c hpc => r_fieldAddr rfl Try.underlying29 rfl rfl Try.sizeOf3 (c.eg 13 rfl rfl hpc)),
                   Ob.ggdet rfl rfl rfl rfl (gi := 9) (tg := 31) rfl rfl Iff.rfl (fun _ a_ _ _ c hpc => r_load1 rfl Try.isAgg3 (c.eg 14 rfl rfl hpc) (((hS.at (st8.ext.trans c.J.ext))).elem (j := 1) (nth_some (by have hq0 := hpc.2; have hq1 := hpc.1; (try simp only [Bool.and_eq_true, Bool.or_eq_true, decide_eq_true_eq, decide_eq_false_iff_not, Bool.not_eq_true', Bool.and_eq_false_iff, Bool.or_eq_false_iff, Bool.not_eq_false', Int.not_lt, Int.not_le, beq_iff_eq, spanB] at hq0 hq1); omega) (by have hq0 := hpc.2; have hq1 := hpc.1; (try simp only [Bool.and_eq_true, Bool.or_eq_true, decide_eq_true_eq, decide_eq_false_iff_not, Bool.not_eq_true', Bool.and_eq_false_iff, Bool.or_eq_false_iff, Bool.not_eq_false', Int.not_lt, Int.not_le, beq_iff_eq, spanB] at hq0 hq1); omega)) rfl)),
                   Ob.ggdet rfl rfl rfl rfl (gi := 9) (tg := 31) rfl rfl Iff.rfl (fun _ a_ _ _ c hpc => r_leq rfl (c.eg 10 rfl rfl hpc) (c.eg 15 rfl rfl hpc)),
                   Ob.gdet rfl rfl rfl rfl (gi := 1) (tg := 23) rfl rfl Iff.rfl (fun _ a_ _ _ c hpc => r_and rfl (c.eg 9 rfl rfl hpc) (fun h => (c.eg 16 rfl rfl ⟨hpc, h⟩))),
                   Ob.det rfl rfl rfl (fun _ a_ _ _ c => r_or rfl (c.ev 1 rfl rfl) (fun h => (c.eg 17 rfl rfl h))),
                   Ob.det rfl rfl rfl (fun _ a_ _ _ c => r_assign rfl (c.ev 18 rfl rfl)),
           trivial⟩ ?_
        intro a9 w9 τ9 st9 f9
        replace e0 := f9.old e0 (by kernel_rfl)
        replace e1 := f9.old e1 (by kernel_rfl)
        replace e4 := f9.old e4 (by kernel_rfl)
        replace e5 := f9.old e5 (by kernel_rfl)
        have e6 : get a9 6 = (.bool (((xs.take k).any (fun p => hasB p n)) || ((decide ((nth xs ((k : Int))).1 ≤ n)) && (decide (n ≤ (nth xs ((k : Int))).2))))) := f9.v 19 rfl
        replace e7 := f9.old e7 (by kernel_rfl)
        replace e8 := f9.old e8 (by kernel_rfl)
        replace e12 := f9.old e12 (by kernel_rfl)
        replace e19 := f9.old e19 (by kernel_rfl)
        replace r1 : ownR SpanE 29 (unionF xs) (τ9 1) b4x5 w9 := f9.iown 1 rfl rfl
        clear f9
        show _
        show Code.wp _ _ _ a9 w9
        refine region_St (bf := [0, 1, 3]) (sp := [
            (det (Nw w) 20 (.int .i64 ((k : Int)))),
                    (det (Nw w) 21 (.int .i64 ((k : Int) + 1))),
                    (det (Nw w) 8 (.int .i64 ((k : Int) + 1)))])
          [(Ini.any (Nw w)), (iown SpanE 29 (Nw w) b4x5 (unionF xs))] mixed st9 (by kernel_rfl) ⟨trivial, r1, trivial⟩
          ⟨Ob.det rfl rfl rfl (fun _ a_ _ _ c => r_move rfl (c.eo e8 (by kernel_rfl))),
                   Ob.det rfl rfl rfl (fun _ a_ _ _ c => r_add rfl (c.ev 0 rfl rfl) rfl (by omega)),
                   Ob.det rfl rfl rfl (fun _ a_ _ _ c => r_assign rfl (c.ev 1 rfl rfl)),
           trivial⟩ ?_
        intro a10 w10 τ10 st10 f10
        replace e0 := f10.old e0 (by kernel_rfl)
        replace e1 := f10.old e1 (by kernel_rfl)
        replace e4 := f10.old e4 (by kernel_rfl)
        replace e5 := f10.old e5 (by kernel_rfl)
        replace e6 := f10.old e6 (by kernel_rfl)
        replace e7 := f10.old e7 (by kernel_rfl)
        have e8 : get a10 8 = (.int .i64 ((k : Int) + 1)) := f10.v 2 rfl
        replace e12 := f10.old e12 (by kernel_rfl)
        replace e19 := f10.old e19 (by kernel_rfl)
        replace r1 : ownR SpanE 29 (unionF xs) (τ10 1) b4x5 w10 := f10.iown 1 rfl rfl
        clear f10
        refine ⟨⟨k + 1, τ10, ?_, st10, (e6.trans (congrArg _ (by rw [any_snoc (by omega)]; rfl))), (e8.trans (int_eq (by omega))), e0, e1, e4, e5, e7, e12, r1⟩, ?_⟩
        · omega
        · simp only [m8, e8, intOf]; omega
      · try simp only [Bool.and_eq_true, Bool.or_eq_true, decide_eq_true_eq, decide_eq_false_iff_not, Bool.not_eq_true', Bool.and_eq_false_iff, Bool.or_eq_false_iff, Bool.not_eq_false', Int.not_lt, Int.not_le, beq_iff_eq, spanB] at hc2
        refine wp_exit ?_
        repeat (with_reducible refine then_exit ?_)
        refine exit_here ?_
        show Code.wp _ _ _ a8 w8
        refine wp_seq ?_
        refine wp_seq ?_
        refine region_St (bf := [0]) (sp := [
            (det (Nw w) 9 (.int .i64 (0)))])
          [(Ini.any (Nw w)), (iown SpanE 29 (Nw w) b4x5 (unionF xs))] mixed st8 (by kernel_rfl) ⟨trivial, r1, trivial⟩
          ⟨Ob.det rfl rfl rfl (fun _ a_ _ _ c => r_assign rfl rfl),
           trivial⟩ ?_
        intro a11 w11 τ11 st11 f11
        replace e0 := f11.old e0 (by kernel_rfl)
        replace e1 := f11.old e1 (by kernel_rfl)
        replace e4 := f11.old e4 (by kernel_rfl)
        replace e5 := f11.old e5 (by kernel_rfl)
        replace e6 := f11.old e6 (by kernel_rfl)
        replace e7 := f11.old e7 (by kernel_rfl)
        replace e8 := f11.old e8 (by kernel_rfl)
        have e9 : get a11 9 = (.int .i64 (0)) := f11.v 0 rfl
        replace e12 := f11.old e12 (by kernel_rfl)
        replace e19 := f11.old e19 (by kernel_rfl)
        replace r1 : ownR SpanE 29 (unionF xs) (τ11 1) b4x5 w11 := f11.iown 1 rfl rfl
        clear f11
        show Code.wp _ _ _ a11 w11
        refine wp_block ?_
        refine wp_loop (fun a_ w_ => ∃ (j : Nat) (τ : Nat → Foot), (j ≤ (unionF xs).length) ∧
                    St (Nw w) w 97 a_ w_ τ ∧
                    get a_ 7 = (.bool (((unionF xs).take j).any (fun p => hasB p n))) ∧
                    get a_ 9 = (.int .i64 ((j : Int))) ∧
                    get a_ 0 = v ∧
                    get a_ 1 = (.int .i64 (n)) ∧
                    get a_ 5 = b4x5 ∧
                    get a_ 6 = (.bool ((xs.take k).any (fun p => hasB p n))) ∧
                    get a_ 8 = (.int .i64 ((k : Int))) ∧
                    get a_ 12 = (.bool (decide (40 < (xs.length : Int)))) ∧
                    get a_ 19 = (.bool (decide ((k : Int) < (xs.length : Int)))) ∧
                    ownR SpanE 29 (unionF xs) (τ 1) b4x5 w_) (fun a_ _ => (unionF xs).length - (intOf (get a_ 9)).toNat) ?_ ?_
        · refine ⟨0, τ11, ?_, st11, (e7.trans (congrArg _ (by rfl))), (e9.trans (int_eq (by omega))), e0, e1, e5, e6, e8, e12, e19, r1⟩
          · omega
        · intro a12 w12 hI
          obtain ⟨j, τ12, q0, st12, e7, e9, e0, e1, e5, e6, e8, e12, e19, r1⟩ := hI
          have m9 := e9
          refine wp_seq ?_
          refine wp_seq ?_
          refine region_St (bf := [0, 0, 2, 7]) (sp := [
              (det (Nw w) 41 (.int .i64 ((j : Int)))),
                        (det (Nw w) 42 b4x5),
                        (det (Nw w) 43 (.int .i64 (((unionF xs).length : Int)))),
                        (det (Nw w) 44 (.bool (decide ((j : Int) < ((unionF xs).length : Int)))))])
            [(Ini.any (Nw w)), (iown SpanE 29 (Nw w) b4x5 (unionF xs))] mixed st12 (by kernel_rfl) ⟨trivial, r1, trivial⟩
            ⟨Ob.det rfl rfl rfl (fun _ a_ _ _ c => r_move rfl (c.eo e9 (by kernel_rfl))),
                       Ob.det rfl rfl rfl (fun _ a_ _ _ c => r_move rfl (c.eo e5 (by kernel_rfl))),
                       Ob.det rfl rfl rfl (fun _ a_ _ _ c => r_len rfl Try.underlying22 (c.ev 1 rfl rfl) r1.isSl),
                       Ob.det rfl rfl rfl (fun _ a_ _ _ c => r_lss rfl (c.ev 0 rfl rfl) (c.ev 2 rfl rfl)),
             trivial⟩ ?_
          intro a13 w13 τ13 st13 f13
          replace e0 := f13.old e0 (by kernel_rfl)
          replace e1 := f13.old e1 (by kernel_rfl)
          replace e5 := f13.old e5 (by kernel_rfl)
          replace e6 := f13.old e6 (by kernel_rfl)
          replace e7 := f13.old e7 (by kernel_rfl)
          replace e8 := f13.old e8 (by kernel_rfl)
          replace e9 := f13.old e9 (by kernel_rfl)
          replace e12 := f13.old e12 (by kernel_rfl)
          replace e19 := f13.old e19 (by kernel_rfl)
          have e44 : get a13 44 = (.bool (decide ((j : Int) < ((unionF xs).length : Int)))) := f13.v 3 rfl
          replace r1 : ownR SpanE 29 (unionF xs) (τ13 1) b4x5 w13 := f13.iown 1 rfl rfl
          clear f13
          show Code.wp _ _ _ a13 w13
          refine wp_cond_split (t := decide ((j : Int) < ((unionF xs).length : Int))) e44 (fun hc3 => ?_) (fun hc3 => ?_)
          · try simp only [Bool.and_eq_true, Bool.or_eq_true, decide_eq_true_eq, decide_eq_false_iff_not, Bool.not_eq_true', Bool.and_eq_false_iff, Bool.or_eq_false_iff, Bool.not_eq_false', Int.not_lt, Int.not_le, beq_iff_eq, spanB] at hc3
            refine wp_skip ?_
            show Code.wp _ _ _ a13 w13
            refine wp_seq ?_
            refine wp_block ?_
            refine wp_seq ?_
            refine region_St (bf := [0, 1, 3, 3, 15, 31, 3, 127, 255, 511]) (sp := [
                (det (Nw w) 47 (.bool (((unionF xs).take j).any (fun p => hasB p n)))),
                            (det (Nw w) 48 (.bool (((unionF xs).take j).any (fun p => hasB p n)))),
                            (gdet (Nw w) 49 ((((unionF xs).take j).any (fun p => hasB p n)) = false) b4x5),
                            (gdet (Nw w) 50 ((((unionF xs).take j).any (fun p => hasB p n)) = false) (.int .i64 ((j : Int)))),
                            (gdet (Nw w) 51 ((((unionF xs).take j).any (fun p => hasB p n)) = false) (.pointer (some ((ptrOf b4x5).add (((j : Int) : Int).toNat * 2))))),
                            (gdet (Nw w) 52 ((((unionF xs).take j).any (fun p => hasB p n)) = false) (.agg #[(.int .i64 ((nth (unionF xs) ((j : Int))).1)), (.int .i64 ((nth (unionF xs) ((j : Int))).2))])),
                            (gdet (Nw w) 53 ((((unionF xs).take j).any (fun p => hasB p n)) = false) (.int .i64 (n))),
                            (gdet (Nw w) 54 ((((unionF xs).take j).any (fun p => hasB p n)) = false) (.bool (hasB (nth (unionF xs) ((j : Int))) n))),
                            (det (Nw w) 55 (.bool ((((unionF xs).take j).any (fun p => hasB p n)) || (hasB (nth (unionF xs) ((j : Int))) n)))),
                            (det (Nw w) 7 (.bool ((((unionF xs).take j).any (fun p => hasB p n)) || (hasB (nth (unionF xs) ((j : Int))) n))))])
              [(Ini.any (Nw w)), (iown SpanE 29 (Nw w) b4x5 (unionF xs))] mixed st13 (by kernel_rfl) ⟨trivial, r1, trivial⟩
              ⟨Ob.det rfl rfl rfl (fun _ a_ _ _ c => r_move rfl (c.eo e7 (by kernel_rfl))),
                           Ob.det rfl rfl rfl (fun _ a_ _ _ c => r_move rfl (c.ev 0 rfl rfl)),
                           Ob.gdet rfl rfl rfl rfl (gi := 1) (tg := 48) rfl rfl Iff.rfl (fun _ a_ _ _ c hpc => r_move rfl (c.eo e5 (by kernel_rfl))),
                           Ob.gdet rfl rfl rfl rfl (gi := 1) (tg := 48) rfl rfl Iff.rfl (fun _ a_ _ _ c hpc => r_move rfl (c.eo e9 (by kernel_rfl))),
                           Ob.gdet rfl rfl rfl rfl (gi := 1) (tg := 48) rfl rfl Iff.rfl (fun _ a_ _ _ c hpc => r_indexAddr rfl Try.underlying22 Try.sizeOf29 (c.eg 2 rfl rfl hpc) r1.isSl (c.eg 3 rfl rfl hpc) (by have hq0 := hpc; (try simp only [Bool.and_eq_true, Bool.or_eq_true, decide_eq_true_eq, decide_eq_false_iff_not, Bool.not_eq_true', Bool.and_eq_false_iff, Bool.or_eq_false_iff, Bool.not_eq_false', Int.not_lt, Int.not_le, beq_iff_eq, spanB] at hq0); omega) (by have hq0 := hpc; (try simp only [Bool.and_eq_true, Bool.or_eq_true, decide_eq_true_eq, decide_eq_false_iff_not, Bool.not_eq_true', Bool.and_eq_false_iff, Bool.or_eq_false_iff, Bool.not_eq_false', Int.not_lt, Int.not_le, beq_iff_eq, spanB] at hq0); omega)),
                           Ob.gdet rfl rfl rfl rfl (gi := 1) (tg := 48) rfl rfl Iff.rfl (fun _ a_ _ _ c hpc => r_loadN (vs := [(.int .i64 ((nth (unionF xs) ((j : Int))).1)), (.int .i64 ((nth (unionF xs) ((j : Int))).2))]) rfl Try.isAgg29 Try.sizeOf29 (c.eg 4 rfl rfl hpc) rfl (fun _ _ hj => ((c.iown 1 rfl rfl (by kernel_rfl)).1.sl).elem (nth_some (by have hq0 := hpc; (try simp only [Bool.and_eq_true, Bool.or_eq_true, decide_eq_true_eq, decide_eq_false_iff_not, Bool.not_eq_true', Bool.and_eq_false_iff, Bool.or_eq_false_iff, Bool.not_eq_false', Int.not_lt, Int.not_le, beq_iff_eq, spanB] at hq0); omega) (by have hq0 := hpc; (try simp only [Bool.and_eq_true, Bool.or_eq_true, decide_eq_true_eq, decide_eq_false_iff_not, Bool.not_eq_true', Bool.and_eq_false_iff, Bool.or_eq_false_iff, Bool.not_eq_false', Int.not_lt, Int.not_le, beq_iff_eq, spanB] at hq0); omega)) hj)),
                           Ob.gdet rfl rfl rfl rfl (gi := 1) (tg := 48) rfl rfl Iff.rfl (fun _ a_ _ _ c hpc => r_move rfl (c.eo e1 (by kernel_rfl))),
                           Ob.gcall rfl rfl rfl rfl (gi := 1) (tg := 48) rfl rfl Iff.rfl (fun _ a_ _ _ c hpc => ⟨_, _, (e_call2 rfl rfl Try.call15 (c.eg 5 rfl rfl hpc) (c.eg 6 rfl rfl hpc)), has_c (nth (unionF xs) ((j : Int))) n _⟩),
                           Ob.det rfl rfl rfl (fun _ a_ _ _ c => r_or rfl (c.ev 1 rfl rfl) (fun h => (c.eg 7 rfl rfl h))),
                           Ob.det rfl rfl rfl (fun _ a_ _ _ c => r_assign rfl (c.ev 8 rfl rfl)),
               trivial⟩ ?_
            intro a14 w14 τ14 st14 f14
            replace e0 := f14.old e0 (by kernel_rfl)
            replace e1 := f14.old e1 (by kernel_rfl)
            replace e5 := f14.old e5 (by kernel_rfl)
            replace e6 := f14.old e6 (by kernel_rfl)
            have e7 : get a14 7 = (.bool ((((unionF xs).take j).any (fun p => hasB p n)) || (hasB (nth (unionF xs) ((j : Int))) n))) := f14.v 9 rfl
            replace e8 := f14.old e8 (by kernel_rfl)
            replace e9 := f14.old e9 (by kernel_rfl)
            replace e12 := f14.old e12 (by kernel_rfl)
            replace e19 := f14.old e19 (by kernel_rfl)
            replace e44 := f14.old e44 (by kernel_rfl)
            replace r1 : ownR SpanE 29 (unionF xs) (τ14 1) b4x5 w14 := f14.iown 1 rfl rfl
            clear f14
            show Code.wp _ _ _ a14 w14
            refine wp_seq ?_
            refine region_St (bf := [0, 0, 3, 7, 15, 0, 0, 96, 224, 480, 1023, 2047, 4095, 8191, 16383, 32767, 32767, 131071, 262143, 524287, 32767, 32767, 2129919, 7372799, 15761407, 32538623, 67108863, 134217727, 268435455]) (sp := [
                (det (Nw w) 56 b4x5),
                            (det (Nw w) 57 (.int .i64 ((j : Int)))),
                            (det (Nw w) 58 (.pointer (some ((ptrOf b4x5).add (((j : Int) : Int).toNat * 2))))),
                            (det (Nw w) 59 (.pointer (some (((ptrOf b4x5).add (((j : Int) : Int).toNat * 2)).add 0)))),
                            (det (Nw w) 60 (.int .i64 ((nth (unionF xs) ((j : Int))).1))),
                            (det (Nw w) 61 b4x5),
                            (det (Nw w) 62 (.int .i64 ((j : Int)))),
                            (det (Nw w) 63 (.pointer (some ((ptrOf b4x5).add (((j : Int) : Int).toNat * 2))))),
                            (det (Nw w) 64 (.pointer (some (((ptrOf b4x5).add (((j : Int) : Int).toNat * 2)).add 1)))),
                            (det (Nw w) 65 (.int .i64 ((nth (unionF xs) ((j : Int))).2))),
                            (det (Nw w) 66 (.bool (decide ((nth (unionF xs) ((j : Int))).2 < (nth (unionF xs) ((j : Int))).1)))),
                            (det (Nw w) 67 (.bool (decide ((nth (unionF xs) ((j : Int))).2 < (nth (unionF xs) ((j : Int))).1)))),
                            (gdet (Nw w) 68 ((decide ((nth (unionF xs) ((j : Int))).2 < (nth (unionF xs) ((j : Int))).1)) = false) (.int .i64 ((j : Int)))),
                            (gdet (Nw w) 69 ((decide ((nth (unionF xs) ((j : Int))).2 < (nth (unionF xs) ((j : Int))).1)) = false) (.bool (decide (0 < (j : Int))))),
                            (gdet (Nw w) 70 ((decide ((nth (unionF xs) ((j : Int))).2 < (nth (unionF xs) ((j : Int))).1)) = false) (.bool (decide (0 < (j : Int))))),
                            (gdet (Nw w) 71 (((decide ((nth (unionF xs) ((j : Int))).2 < (nth (unionF xs) ((j : Int))).1)) = false) ∧ (decide (0 < (j : Int))) = true) b4x5),
                            (gdet (Nw w) 72 (((decide ((nth (unionF xs) ((j : Int))).2 < (nth (unionF xs) ((j : Int))).1)) = false) ∧ (decide (0 < (j : Int))) = true) (.int .i64 ((j : Int)))),
                            (gdet (Nw w) 73 (((decide ((nth (unionF xs) ((j : Int))).2 < (nth (unionF xs) ((j : Int))).1)) = false) ∧ (decide (0 < (j : Int))) = true) (.pointer (some ((ptrOf b4x5).add (((j : Int) : Int).toNat * 2))))),
                            (gdet (Nw w) 74 (((decide ((nth (unionF xs) ((j : Int))).2 < (nth (unionF xs) ((j : Int))).1)) = false) ∧ (decide (0 < (j : Int))) = true) (.pointer (some (((ptrOf b4x5).add (((j : Int) : Int).toNat * 2)).add 0)))),
                            (gdet (Nw w) 75 (((decide ((nth (unionF xs) ((j : Int))).2 < (nth (unionF xs) ((j : Int))).1)) = false) ∧ (decide (0 < (j : Int))) = true) (.int .i64 ((nth (unionF xs) ((j : Int))).1))),
                            (gdet (Nw w) 76 (((decide ((nth (unionF xs) ((j : Int))).2 < (nth (unionF xs) ((j : Int))).1)) = false) ∧ (decide (0 < (j : Int))) = true) b4x5),
                            (gdet (Nw w) 77 (((decide ((nth (unionF xs) ((j : Int))).2 < (nth (unionF xs) ((j : Int))).1)) = false) ∧ (decide (0 < (j : Int))) = true) (.int .i64 ((j : Int)))),
                            (gdet (Nw w) 78 (((decide ((nth (unionF xs) ((j : Int))).2 < (nth (unionF xs) ((j : Int))).1)) = false) ∧ (decide (0 < (j : Int))) = true) (.int .i64 ((j : Int) - 1))),
                            (gdet (Nw w) 79 (((decide ((nth (unionF xs) ((j : Int))).2 < (nth (unionF xs) ((j : Int))).1)) = false) ∧ (decide (0 < (j : Int))) = true) (.pointer (some ((ptrOf b4x5).add (((j : Int) - 1 : Int).toNat * 2))))),
                            (gdet (Nw w) 80 (((decide ((nth (unionF xs) ((j : Int))).2 < (nth (unionF xs) ((j : Int))).1)) = false) ∧ (decide (0 < (j : Int))) = true) (.pointer (some (((ptrOf b4x5).add (((j : Int) - 1 : Int).toNat * 2)).add 1)))),
                            (gdet (Nw w) 81 (((decide ((nth (unionF xs) ((j : Int))).2 < (nth (unionF xs) ((j : Int))).1)) = false) ∧ (decide (0 < (j : Int))) = true) (.int .i64 ((nth (unionF xs) ((j : Int) - 1)).2))),
                            (gdet (Nw w) 82 (((decide ((nth (unionF xs) ((j : Int))).2 < (nth (unionF xs) ((j : Int))).1)) = false) ∧ (decide (0 < (j : Int))) = true) (.bool (decide ((nth (unionF xs) ((j : Int))).1 ≤ (nth (unionF xs) ((j : Int) - 1)).2)))),
                            (gdet (Nw w) 83 ((decide ((nth (unionF xs) ((j : Int))).2 < (nth (unionF xs) ((j : Int))).1)) = false) (.bool ((decide (0 < (j : Int))) && (decide ((nth (unionF xs) ((j : Int))).1 ≤ (nth (unionF xs) ((j : Int) - 1)).2))))),
                            (det (Nw w) 84 (.bool ((decide ((nth (unionF xs) ((j : Int))).2 < (nth (unionF xs) ((j : Int))).1)) || ((decide (0 < (j : Int))) && (decide ((nth (unionF xs) ((j : Int))).1 ≤ (nth (unionF xs) ((j : Int) - 1)).2))))))])
              [(Ini.any (Nw w)), (iown SpanE 29 (Nw w) b4x5 (unionF xs))] mixed st14 (by kernel_rfl) ⟨trivial, r1, trivial⟩
              ⟨Ob.det rfl rfl rfl (fun _ a_ _ _ c => r_move rfl (c.eo e5 (by kernel_rfl))),
                           Ob.det rfl rfl rfl (fun _ a_ _ _ c => r_move rfl (c.eo e9 (by kernel_rfl))),
                           Ob.det rfl rfl rfl (fun _ a_ _ _ c => r_indexAddr rfl Try.underlying22 Try.sizeOf29 (c.ev 0 rfl rfl) r1.isSl (c.ev 1 rfl rfl) (by omega) (by omega)),
                           Ob.det rfl rfl rfl (fun _ a_ _ _ c => r_fieldAddr rfl Try.underlying29 rfl rfl Try.sizeOf3 (c.ev 2 rfl rfl)),
                           Ob.det rfl rfl rfl (fun _ a_ _ _ c => r_load1 rfl Try.isAgg3 (c.ev 3 rfl rfl) (((c.iown 1 rfl rfl (by kernel_rfl)).1.sl).elem (j := 0) (nth_some (by omega) (by omega)) rfl)),
                           Ob.det rfl rfl rfl (fun _ a_ _ _ c => r_move rfl (c.eo e5 (by kernel_rfl))),
                           Ob.det rfl rfl rfl (fun _ a_ _ _ c => r_move rfl (c.eo e9 (by kernel_rfl))),
                           Ob.det rfl rfl rfl (fun _ a_ _ _ c => r_indexAddr rfl Try.underlying22 Try.sizeOf29 (c.ev 5 rfl rfl) r1.isSl (c.ev 6 rfl rfl) (by omega) (by omega)),
                           Ob.det rfl rfl rfl (fun _ a_ _ _ c => r_fieldAddr rfl Try.underlying29 rfl rfl Try.sizeOf3 (c.ev 7 rfl rfl)),
                           Ob.det rfl rfl rfl (fun _ a_ _ _ c => r_load1 rfl Try.isAgg3 (c.ev 8 rfl rfl) (((c.iown 1 rfl rfl (by kernel_rfl)).1.sl).elem (j := 1) (nth_some (by omega) (by omega)) rfl)),
                           Ob.det rfl rfl rfl (fun _ a_ _ _ c => r_gtr rfl (c.ev 4 rfl rfl) (c.ev 9 rfl rfl)),
                           Ob.det rfl rfl rfl (fun _ a_ _ _ c => r_move rfl (c.ev 10 rfl rfl)),
                           Ob.gdet rfl rfl rfl rfl (gi := 11) (tg := 67) rfl rfl Iff.rfl (fun _ a_ _ _ c hpc => r_move rfl (c.eo e9 (by kernel_rfl))),
                           Ob.gdet rfl rfl rfl rfl (gi := 11) (tg := 67) rfl rfl Iff.rfl (fun _ a_ _ _ c hpc => r_gtr rfl (c.eg 12 rfl rfl hpc) rfl),
                           Ob.gdet rfl rfl rfl rfl (gi := 11) (tg := 67) rfl rfl Iff.rfl (fun _ a_ _ _ c hpc => r_move rfl (c.eg 13 rfl rfl hpc)),
                           Ob.ggdet rfl rfl rfl rfl (gi := 14) (tg := 70) rfl rfl Iff.rfl (fun _ a_ _ _ c hpc => r_move rfl (c.eo e5 (by kernel_rfl))),
                           Ob.ggdet rfl rfl rfl rfl (gi := 14) (tg := 70) rfl rfl Iff.rfl (fun _ a_ _ _ c hpc => r_move rfl (c.eo e9 (by kernel_rfl))),
                           Ob.ggdet rfl rfl rfl rfl (gi := 14) (tg := 70) rfl rfl Iff.rfl (fun _ a_ _ _ c hpc => r_indexAddr rfl Try.underlying22 Try.sizeOf29 (c.eg 15 rfl rfl hpc) r1.isSl (c.eg 16 rfl rfl hpc) (by have hq0 := hpc.2; have hq1 := hpc.1; (try simp only [Bool.and_eq_true, Bool.or_eq_true, decide_eq_true_eq, decide_eq_false_iff_not, Bool.not_eq_true', Bool.and_eq_false_iff, Bool.or_eq_false_iff, Bool.not_eq_false', Int.not_lt, Int.not_le, beq_iff_eq, spanB] at hq0 hq1); omega) (by have hq0 := hpc.2; have hq1 := hpc.1; (try simp only [Bool.and_eq_true, Bool.or_eq_true, decide_eq_true_eq, decide_eq_false_iff_not, Bool.not_eq_true', Bool.and_eq_false_iff, Bool.or_eq_false_iff, Bool.not_eq_false', Int.not_lt, Int.not_le, beq_iff_eq, spanB] at hq0 hq1); omega)),
                           Ob.ggdet rfl rfl rfl rfl (gi := 14) (tg := 70) rfl rfl Iff.rfl (fun _ a_ _ _ c hpc => r_fieldAddr rfl Try.underlying29 rfl rfl Try.sizeOf3 (c.eg 17 rfl rfl hpc)),
                           Ob.ggdet rfl rfl rfl rfl (gi := 14) (tg := 70) rfl rfl Iff.rfl (fun _ a_ _ _ c hpc => r_load1 rfl Try.isAgg3 (c.eg 18 rfl rfl hpc) (((c.iown 1 rfl rfl (by kernel_rfl)).1.sl).elem (j := 0) (nth_some (by have hq0 := hpc.2; have hq1 := hpc.1; (try simp only [Bool.and_eq_true, Bool.or_eq_true, decide_eq_true_eq, decide_eq_false_iff_not, Bool.not_eq_true', Bool.and_eq_false_iff, Bool.or_eq_false_iff, Bool.not_eq_false', Int.not_lt, Int.not_le, beq_iff_eq, spanB] at hq0 hq1); omega) (by have hq0 := hpc.2; have hq1 := hpc.1; (try simp only [Bool.and_eq_true, Bool.or_eq_true, decide_eq_true_eq, decide_eq_false_iff_not, Bool.not_eq_true', Bool.and_eq_false_iff, Bool.or_eq_false_iff, Bool.not_eq_false', Int.not_lt, Int.not_le, beq_iff_eq, spanB] at hq0 hq1); omega)) rfl)),
                           Ob.ggdet rfl rfl rfl rfl (gi := 14) (tg := 70) rfl rfl Iff.rfl (fun _ a_ _ _ c hpc => r_move rfl (c.eo e5 (by kernel_rfl))),
                           Ob.ggdet rfl rfl rfl rfl (gi := 14) (tg := 70) rfl rfl Iff.rfl (fun _ a_ _ _ c hpc => r_move rfl (c.eo e9 (by kernel_rfl))),
                           Ob.ggdet rfl rfl rfl rfl (gi := 14) (tg := 70) rfl rfl Iff.rfl (fun _ a_ _ _ c hpc => r_sub rfl (c.eg 21 rfl rfl hpc) rfl (by have hq0 := hpc.2; have hq1 := hpc.1; (try simp only [Bool.and_eq_true, Bool.or_eq_true, decide_eq_true_eq, decide_eq_false_iff_not, Bool.not_eq_true', Bool.and_eq_false_iff, Bool.or_eq_false_iff, Bool.not_eq_false', Int.not_lt, Int.not_le, beq_iff_eq, spanB] at hq0 hq1); omega)),
                           Ob.ggdet rfl rfl rfl rfl (gi := 14) (tg := 70) rfl rfl Iff.rfl (fun _ a_ _ _ c hpc => r_indexAddr rfl Try.underlying22 Try.sizeOf29 (c.eg 20 rfl rfl hpc) r1.isSl (c.eg 22 rfl rfl hpc) (by have hq0 := hpc.2; have hq1 := hpc.1; (try simp only [Bool.and_eq_true, Bool.or_eq_true, decide_eq_true_eq, decide_eq_false_iff_not, Bool.not_eq_true', Bool.and_eq_false_iff, Bool.or_eq_false_iff, Bool.not_eq_false', Int.not_lt, Int.not_le, beq_iff_eq, spanB] at hq0 hq1); omega) (by have hq0 := hpc.2; have hq1 := hpc.1; (try simp only [Bool.and_eq_true, Bool.or_eq_true, decide_eq_true_eq, decide_eq_false_iff_not, Bool.not_eq_true', Bool.and_eq_false_iff, Bool.or_eq_false_iff, Bool.not_eq_false', Int.not_lt, Int.not_le, beq_iff_eq, spanB] at hq0 hq1); omega)),
                           Ob.ggdet rfl rfl rfl rfl (gi := 14) (tg := 70) rfl rfl Iff.rfl (fun _ a_ _ _ c hpc => r_fieldAddr rfl Try.underlying29 rfl rfl Try.sizeOf3 (c.eg 23 rfl rfl hpc)),
                           Ob.ggdet rfl rfl rfl rfl (gi := 14) (tg := 70) rfl rfl Iff.rfl (fun _ a_ _ _ c hpc => r_load1 rfl Try.isAgg3 (c.eg 24 rfl rfl hpc) (((c.iown 1 rfl rfl (by kernel_rfl)).1.sl).elem (j := 1) (nth_some (by have hq0 := hpc.2; have hq1 := hpc.1; (try simp only [Bool.and_eq_true, Bool.or_eq_true, decide_eq_true_eq, decide_eq_false_iff_not, Bool.not_eq_true', Bool.and_eq_false_iff, Bool.or_eq_false_iff, Bool.not_eq_false', Int.not_lt, Int.not_le, beq_iff_eq, spanB] at hq0 hq1); omega) (by have hq0 := hpc.2; have hq1 := hpc.1; (try simp only [Bool.and_eq_true, Bool.or_eq_true, decide_eq_true_eq, decide_eq_false_iff_not, Bool.not_eq_true', Bool.and_eq_false_iff, Bool.or_eq_false_iff, Bool.not_eq_false', Int.not_lt, Int.not_le, beq_iff_eq, spanB] at hq0 hq1); omega)) rfl)),
                           Ob.ggdet rfl rfl rfl rfl (gi := 14) (tg := 70) rfl rfl Iff.rfl (fun _ a_ _ _ c hpc => r_leq rfl (c.eg 19 rfl rfl hpc) (c.eg 25 rfl rfl hpc)),
                           Ob.gdet rfl rfl rfl rfl (gi := 11) (tg := 67) rfl rfl Iff.rfl (fun _ a_ _ _ c hpc => r_and rfl (c.eg 14 rfl rfl hpc) (fun h => (c.eg 26 rfl rfl ⟨hpc, h⟩))),
                           Ob.det rfl rfl rfl (fun _ a_ _ _ c => r_or rfl (c.ev 11 rfl rfl) (fun h => (c.eg 27 rfl rfl h))),
               trivial⟩ ?_
            intro a15 w15 τ15 st15 f15
            replace e0 := f15.old e0 (by kernel_rfl)
            replace e1 := f15.old e1 (by kernel_rfl)
            replace e5 := f15.old e5 (by kernel_rfl)
            replace e6 := f15.old e6 (by kernel_rfl)
            replace e7 := f15.old e7 (by kernel_rfl)
            replace e8 := f15.old e8 (by kernel_rfl)
            replace e9 := f15.old e9 (by kernel_rfl)
            replace e12 := f15.old e12 (by kernel_rfl)
            replace e19 := f15.old e19 (by kernel_rfl)
            replace e44 := f15.old e44 (by kernel_rfl)
            have e84 : get a15 84 = (.bool ((decide ((nth (unionF xs) ((j : Int))).2 < (nth (unionF xs) ((j : Int))).1)) || ((decide (0 < (j : Int))) && (decide ((nth (unionF xs) ((j : Int))).1 ≤ (nth (unionF xs) ((j : Int) - 1)).2))))) := f15.v 28 rfl
            replace r1 : ownR SpanE 29 (unionF xs) (τ15 1) b4x5 w15 := f15.iown 1 rfl rfl
            clear f15
            show Code.wp _ _ _ a15 w15
            refine wp_cond_split (t := (decide ((nth (unionF xs) ((j : Int))).2 < (nth (unionF xs) ((j : Int))).1)) || ((decide (0 < (j : Int))) && (decide ((nth (unionF xs) ((j : Int))).1 ≤ (nth (unionF xs) ((j : Int) - 1)).2)))) e84 (fun hc4 => ?_) (fun hc4 => ?_)
            · have hd4 := hc4; try simp only [Bool.and_eq_true, Bool.or_eq_true, decide_eq_true_eq, decide_eq_false_iff_not, Bool.not_eq_true', Bool.and_eq_false_iff, Bool.or_eq_false_iff, Bool.not_eq_false', Int.not_lt, Int.not_le, beq_iff_eq, spanB] at hd4
              refine wp_seq ?_
              refine region_St (bf := [0]) (sp := [
                  (det (Nw w) 4 (.bool (false)))])
                [(Ini.any (Nw w)), (iown SpanE 29 (Nw w) b4x5 (unionF xs))] mixed st15 (by kernel_rfl) ⟨trivial, r1, trivial⟩
                ⟨Ob.det rfl rfl rfl (fun _ a_ _ _ c => r_assign rfl rfl),
                 trivial⟩ ?_
              intro a16 w16 τ16 st16 f16
              replace e0 := f16.old e0 (by kernel_rfl)
              replace e1 := f16.old e1 (by kernel_rfl)
              have e4 : get a16 4 = (.bool (false)) := f16.v 0 rfl
              replace e5 := f16.old e5 (by kernel_rfl)
              replace e6 := f16.old e6 (by kernel_rfl)
              replace e7 := f16.old e7 (by kernel_rfl)
              replace e8 := f16.old e8 (by kernel_rfl)
              replace e9 := f16.old e9 (by kernel_rfl)
              replace e12 := f16.old e12 (by kernel_rfl)
              replace e19 := f16.old e19 (by kernel_rfl)
              replace e44 := f16.old e44 (by kernel_rfl)
              replace e84 := f16.old e84 (by kernel_rfl)
              replace r1 : ownR SpanE 29 (unionF xs) (τ16 1) b4x5 w16 := f16.iown 1 rfl rfl
              clear f16
              show Code.wp _ _ _ a16 w16
              refine wp_ret ?_
              repeat (first | with_reducible refine then_ret ?_ | with_reducible refine block_ret ?_)
              refine ret1 (fn := Try.f4) rfl st16.defers e4 ?_
              exact ⟨congrArg _ (congrArg _ (show (false) = true from by have hb_ := union_no_bad (xs := xs) (j := j) (by omega); exact Bool.noConfusion (hb_.symm.trans (show _ = true from by assumption)))), st16.ext0⟩
            · have hd4 := hc4; try simp only [Bool.and_eq_true, Bool.or_eq_true, decide_eq_true_eq, decide_eq_false_iff_not, Bool.not_eq_true', Bool.and_eq_false_iff, Bool.or_eq_false_iff, Bool.not_eq_false', Int.not_lt, Int.not_le, beq_iff_eq, spanB] at hd4
              refine wp_skip ?_
              show _
              show Code.wp _ _ _ a15 w15
              refine region_St (bf := [0, 1, 3]) (sp := [
                  (det (Nw w) 45 (.int .i64 ((j : Int)))),
                                (det (Nw w) 46 (.int .i64 ((j : Int) + 1))),
                                (det (Nw w) 9 (.int .i64 ((j : Int) + 1)))])
                [(Ini.any (Nw w)), (iown SpanE 29 (Nw w) b4x5 (unionF xs))] mixed st15 (by kernel_rfl) ⟨trivial, r1, trivial⟩
                ⟨Ob.det rfl rfl rfl (fun _ a_ _ _ c => r_move rfl (c.eo e9 (by kernel_rfl))),
                               Ob.det rfl rfl rfl (fun _ a_ _ _ c => r_add rfl (c.ev 0 rfl rfl) rfl (by omega)),
                               Ob.det rfl rfl rfl (fun _ a_ _ _ c => r_assign rfl (c.ev 1 rfl rfl)),
                 trivial⟩ ?_
              intro a17 w17 τ17 st17 f17
              replace e0 := f17.old e0 (by kernel_rfl)
              replace e1 := f17.old e1 (by kernel_rfl)
              replace e5 := f17.old e5 (by kernel_rfl)
              replace e6 := f17.old e6 (by kernel_rfl)
              replace e7 := f17.old e7 (by kernel_rfl)
              replace e8 := f17.old e8 (by kernel_rfl)
              have e9 : get a17 9 = (.int .i64 ((j : Int) + 1)) := f17.v 2 rfl
              replace e12 := f17.old e12 (by kernel_rfl)
              replace e19 := f17.old e19 (by kernel_rfl)
              replace e44 := f17.old e44 (by kernel_rfl)
              replace e84 := f17.old e84 (by kernel_rfl)
              replace r1 : ownR SpanE 29 (unionF xs) (τ17 1) b4x5 w17 := f17.iown 1 rfl rfl
              clear f17
              refine ⟨⟨j + 1, τ17, ?_, st17, (e7.trans (congrArg _ (by rw [any_snoc (by omega)]))), (e9.trans (int_eq (by omega))), e0, e1, e5, e6, e8, e12, e19, r1⟩, ?_⟩
              · omega
              · simp only [m9, e9, intOf]; omega
          · try simp only [Bool.and_eq_true, Bool.or_eq_true, decide_eq_true_eq, decide_eq_false_iff_not, Bool.not_eq_true', Bool.and_eq_false_iff, Bool.or_eq_false_iff, Bool.not_eq_false', Int.not_lt, Int.not_le, beq_iff_eq, spanB] at hc3
            refine wp_exit ?_
            repeat (with_reducible refine then_exit ?_)
            refine exit_here ?_
            show Code.wp _ _ _ a13 w13
            refine wp_seq ?_
            refine region_St (bf := [0, 0, 3, 7, 15, 31, 15, 127, 255, 511, 1023, 2047, 4095]) (sp := [
                (det (Nw w) 85 (.bool ((xs.take k).any (fun p => hasB p n)))),
                            (det (Nw w) 86 (.bool (((unionF xs).take j).any (fun p => hasB p n)))),
                            (det (Nw w) 87 (.bool (((xs.take k).any (fun p => hasB p n)) == (((unionF xs).take j).any (fun p => hasB p n))))),
                            (det (Nw w) 88 (.bool (((xs.take k).any (fun p => hasB p n)) == (((unionF xs).take j).any (fun p => hasB p n))))),
                            (gdet (Nw w) 89 ((((xs.take k).any (fun p => hasB p n)) == (((unionF xs).take j).any (fun p => hasB p n))) = true) b4x5),
                            (gown ((((xs.take k).any (fun p => hasB p n)) == (((unionF xs).take j).any (fun p => hasB p n))) = true) SpanE 29 (Nw w) 2 90 (unionF (unionF xs))),
                            (gdet (Nw w) 91 ((((xs.take k).any (fun p => hasB p n)) == (((unionF xs).take j).any (fun p => hasB p n))) = true) b4x5),
                            (gdet (Nw w) 92 ((((xs.take k).any (fun p => hasB p n)) == (((unionF xs).take j).any (fun p => hasB p n))) = true) (.bool (decide (unionF (unionF xs) = unionF xs)))),
                            (det (Nw w) 93 (.bool ((((xs.take k).any (fun p => hasB p n)) == (((unionF xs).take j).any (fun p => hasB p n))) && (decide (unionF (unionF xs) = unionF xs))))),
                            (det (Nw w) 94 (.bool ((((xs.take k).any (fun p => hasB p n)) == (((unionF xs).take j).any (fun p => hasB p n))) && (decide (unionF (unionF xs) = unionF xs))))),
                            (gdet (Nw w) 95 (((((xs.take k).any (fun p => hasB p n)) == (((unionF xs).take j).any (fun p => hasB p n))) && (decide (unionF (unionF xs) = unionF xs))) = true) (.bool (true))),
                            (det (Nw w) 96 (.bool (((((xs.take k).any (fun p => hasB p n)) == (((unionF xs).take j).any (fun p => hasB p n))) && (decide (unionF (unionF xs) = unionF xs))) && true))),
                            (det (Nw w) 4 (.bool (((((xs.take k).any (fun p => hasB p n)) == (((unionF xs).take j).any (fun p => hasB p n))) && (decide (unionF (unionF xs) = unionF xs))) && true)))])
              [(Ini.any (Nw w)), (iown SpanE 29 (Nw w) b4x5 (unionF xs))] mixed st13 (by kernel_rfl) ⟨trivial, r1, trivial⟩
              ⟨Ob.det rfl rfl rfl (fun _ a_ _ _ c => r_move rfl (c.eo e6 (by kernel_rfl))),
                           Ob.det rfl rfl rfl (fun _ a_ _ _ c => r_move rfl (c.eo e7 (by kernel_rfl))),
                           Ob.det rfl rfl rfl (fun _ a_ _ _ c => r_beql rfl Try.underlying4 (c.ev 0 rfl rfl) (c.ev 1 rfl rfl)),
                           Ob.det rfl rfl rfl (fun _ a_ _ _ c => r_move rfl (c.ev 2 rfl rfl)),
                           Ob.gdet rfl rfl rfl rfl (gi := 3) (tg := 88) rfl rfl Iff.rfl (fun _ a_ _ _ c hpc => r_move rfl (c.eo e5 (by kernel_rfl))),
                           Ob.gown (gi := 3) (tg := 88) rfl rfl rfl rfl rfl rfl Iff.rfl (fun hpc => Ob.callOwn rfl rfl rfl (fun _ a_ _ _ c => ⟨_, _, (e_call1 rfl rfl Try.call13 (c.eg 4 rfl rfl hpc)), union_c b4x5 (unionF xs) _ (c.iown 1 rfl rfl (by kernel_rfl)).1.sl (by have hq0 := hpc; (try simp only [Bool.and_eq_true, Bool.or_eq_true, decide_eq_true_eq, decide_eq_false_iff_not, Bool.not_eq_true', Bool.and_eq_false_iff, Bool.or_eq_false_iff, Bool.not_eq_false', Int.not_lt, Int.not_le, beq_iff_eq, spanB] at hq0); omega)⟩)),
                           Ob.gdet rfl rfl rfl rfl (gi := 3) (tg := 88) rfl rfl Iff.rfl (fun _ a_ _ _ c hpc => r_move rfl (c.eo e5 (by kernel_rfl))),
                           Ob.gcall rfl rfl rfl rfl (gi := 3) (tg := 88) rfl rfl Iff.rfl (fun _ a_ _ _ c hpc => ⟨_, _, (e_call2 rfl rfl Try.call12 (eval_tmp _ 90) (c.eg 6 rfl rfl hpc)), spans_c _ b4x5 (unionF (unionF xs)) (unionF xs) _ (c.rgown 5 rfl rfl (by kernel_rfl) hpc).1.sl (c.iown 1 rfl rfl (by kernel_rfl)).1.sl⟩),
                           Ob.det rfl rfl rfl (fun _ a_ _ _ c => r_and rfl (c.ev 3 rfl rfl) (fun h => (c.eg 7 rfl rfl h))),
                           Ob.det rfl rfl rfl (fun _ a_ _ _ c => r_move rfl (c.ev 8 rfl rfl)),
                           Ob.gcall rfl rfl rfl rfl (gi := 9) (tg := 94) rfl rfl Iff.rfl (fun _ a_ _ _ c hpc => ⟨_, _, (e_call0 rfl rfl Try.call11), awake_c _⟩),
                           Ob.det rfl rfl rfl (fun _ a_ _ _ c => r_and rfl (c.ev 9 rfl rfl) (fun h => (c.eg 10 rfl rfl h))),
                           Ob.det rfl rfl rfl (fun _ a_ _ _ c => r_assign rfl (c.ev 11 rfl rfl)),
               trivial⟩ ?_
            intro a18 w18 τ18 st18 f18
            replace e0 := f18.old e0 (by kernel_rfl)
            replace e1 := f18.old e1 (by kernel_rfl)
            have e4 : get a18 4 = (.bool (((((xs.take k).any (fun p => hasB p n)) == (((unionF xs).take j).any (fun p => hasB p n))) && (decide (unionF (unionF xs) = unionF xs))) && true)) := f18.v 12 rfl
            replace e5 := f18.old e5 (by kernel_rfl)
            replace e6 := f18.old e6 (by kernel_rfl)
            replace e7 := f18.old e7 (by kernel_rfl)
            replace e8 := f18.old e8 (by kernel_rfl)
            replace e9 := f18.old e9 (by kernel_rfl)
            replace e12 := f18.old e12 (by kernel_rfl)
            replace e19 := f18.old e19 (by kernel_rfl)
            replace e44 := f18.old e44 (by kernel_rfl)
            replace r1 : ownR SpanE 29 (unionF xs) (τ18 1) b4x5 w18 := f18.iown 1 rfl rfl
            clear f18
            show Code.wp _ _ _ a18 w18
            refine wp_ret ?_
            repeat (first | with_reducible refine then_ret ?_ | with_reducible refine block_ret ?_)
            refine ret1 (fn := Try.f4) rfl st18.defers e4 ?_
            exact ⟨congrArg _ (congrArg _ (show (((((xs.take k).any (fun p => hasB p n)) == (((unionF xs).take j).any (fun p => hasB p n))) && (decide (unionF (unionF xs) = unionF xs))) && true) = true from by rw [List.take_of_length_le (by omega), List.take_of_length_le (by omega), union_any, unionF_self]; simp)), st18.ext0⟩

set_option maxRecDepth 100000 in
theorem unionAdds_c (v u : Value) (xs : List (Int × Int)) (ds : List Bool) (w : World) (hS : SlT SpanE w v xs) (hU : SlT BoolE w u ds) : Calls Try.prog 8 #[v, u] w (fun e w' => e = .returned (.bool (true)) ∧ Ext none' w w') := by
  refine enter (n := 61) Try.func8 rfl rfl (Nat.le_of_ble_eq_true rfl) ?_
  intro a0 τ0 ha st0
  have e0 : get a0 0 = v := ha 0 _ rfl
  have e1 : get a0 1 = u := ha 1 _ rfl
  clear ha
  have hle := hS.le
  have hle2 := hU.le
  refine wp_seq ?_
  refine region_St (bf := [0]) (sp := [
      (det (Nw w) 4 (.bool (false)))])
    [] mixed st0 (by kernel_rfl) trivial
    ⟨Ob.det rfl rfl rfl (fun _ a_ _ _ c => r_assign rfl rfl),
     trivial⟩ ?_
  intro a1 w1 τ1 st1 f1
  replace e0 := f1.old e0 (by kernel_rfl)
  replace e1 := f1.old e1 (by kernel_rfl)
  have e4 : get a1 4 = (.bool (false)) := f1.v 0 rfl
  clear f1
  show Code.wp _ _ _ a1 w1
  refine wp_seq ?_
  refine wp_seq ?_
  refine region_St (bf := [0, 1, 3, 7, 15, 31, 63, 127]) (sp := [
      (det (Nw w) 9 v),
        (det (Nw w) 10 (.int .i64 ((xs.length : Int)))),
        (det (Nw w) 11 (.bool (decide (20 < (xs.length : Int))))),
        (det (Nw w) 12 (.bool (decide (20 < (xs.length : Int))))),
        (gdet (Nw w) 13 ((decide (20 < (xs.length : Int))) = false) u),
        (gdet (Nw w) 14 ((decide (20 < (xs.length : Int))) = false) (.int .i64 ((ds.length : Int)))),
        (gdet (Nw w) 15 ((decide (20 < (xs.length : Int))) = false) (.bool (decide (20 < (ds.length : Int))))),
        (det (Nw w) 16 (.bool ((decide (20 < (xs.length : Int))) || (decide (20 < (ds.length : Int))))))])
    [] mixed st1 (by kernel_rfl) trivial
    ⟨Ob.det rfl rfl rfl (fun _ a_ _ _ c => r_move rfl (c.eo e0 (by kernel_rfl))),
       Ob.det rfl rfl rfl (fun _ a_ _ _ c => r_len rfl Try.underlying22 (c.ev 0 rfl rfl) hS.sl),
       Ob.det rfl rfl rfl (fun _ a_ _ _ c => r_gtr rfl (c.ev 1 rfl rfl) rfl),
       Ob.det rfl rfl rfl (fun _ a_ _ _ c => r_move rfl (c.ev 2 rfl rfl)),
       Ob.gdet rfl rfl rfl rfl (gi := 3) (tg := 12) rfl rfl Iff.rfl (fun _ a_ _ _ c hpc => r_move rfl (c.eo e1 (by kernel_rfl))),
       Ob.gdet rfl rfl rfl rfl (gi := 3) (tg := 12) rfl rfl Iff.rfl (fun _ a_ _ _ c hpc => r_len rfl Try.underlying34 (c.eg 4 rfl rfl hpc) hU.sl),
       Ob.gdet rfl rfl rfl rfl (gi := 3) (tg := 12) rfl rfl Iff.rfl (fun _ a_ _ _ c hpc => r_gtr rfl (c.eg 5 rfl rfl hpc) rfl),
       Ob.det rfl rfl rfl (fun _ a_ _ _ c => r_or rfl (c.ev 3 rfl rfl) (fun h => (c.eg 6 rfl rfl h))),
     trivial⟩ ?_
  intro a2 w2 τ2 st2 f2
  replace e0 := f2.old e0 (by kernel_rfl)
  replace e1 := f2.old e1 (by kernel_rfl)
  replace e4 := f2.old e4 (by kernel_rfl)
  have e16 : get a2 16 = (.bool ((decide (20 < (xs.length : Int))) || (decide (20 < (ds.length : Int))))) := f2.v 7 rfl
  clear f2
  show Code.wp _ _ _ a2 w2
  refine wp_cond_split (t := (decide (20 < (xs.length : Int))) || (decide (20 < (ds.length : Int)))) e16 (fun hc1 => ?_) (fun hc1 => ?_)
  · try simp only [Bool.and_eq_true, Bool.or_eq_true, decide_eq_true_eq, decide_eq_false_iff_not, Bool.not_eq_true', Bool.and_eq_false_iff, Bool.or_eq_false_iff, Bool.not_eq_false', Int.not_lt, Int.not_le, beq_iff_eq, spanB] at hc1
    refine wp_seq ?_
    refine region_St (bf := [0, 1]) (sp := [
        (det (Nw w) 17 (.bool (true))),
            (det (Nw w) 4 (.bool (true)))])
      [] mixed st2 (by kernel_rfl) trivial
      ⟨Ob.call rfl rfl rfl (fun _ a_ _ _ c => ⟨_, _, (e_call0 rfl rfl Try.call11), awake_c _⟩),
           Ob.det rfl rfl rfl (fun _ a_ _ _ c => r_assign rfl (c.ev 0 rfl rfl)),
       trivial⟩ ?_
    intro a3 w3 τ3 st3 f3
    replace e0 := f3.old e0 (by kernel_rfl)
    replace e1 := f3.old e1 (by kernel_rfl)
    have e4 : get a3 4 = (.bool (true)) := f3.v 1 rfl
    replace e16 := f3.old e16 (by kernel_rfl)
    clear f3
    show Code.wp _ _ _ a3 w3
    refine wp_ret ?_
    repeat (first | with_reducible refine then_ret ?_ | with_reducible refine block_ret ?_)
    refine ret1 (fn := Try.f8) rfl st3.defers e4 ?_
    exact ⟨rfl, st3.ext0⟩
  · try simp only [Bool.and_eq_true, Bool.or_eq_true, decide_eq_true_eq, decide_eq_false_iff_not, Bool.not_eq_true', Bool.and_eq_false_iff, Bool.or_eq_false_iff, Bool.not_eq_false', Int.not_lt, Int.not_le, beq_iff_eq, spanB] at hc1
    refine wp_skip ?_
    show Code.wp _ _ _ a2 w2
    refine wp_seq ?_
    refine region_St (bf := [0, 1]) (sp := [
        (det (Nw w) 5 (.slice none 0 0)),
            (det (Nw w) 6 (.slice none 0 0))])
      [] mixed st2 (by kernel_rfl) trivial
      ⟨Ob.det rfl rfl rfl (fun _ a_ _ _ c => r_assign rfl rfl),
           Ob.det rfl rfl rfl (fun _ a_ _ _ c => r_assign rfl rfl),
       trivial⟩ ?_
    intro a4 w4 τ4 st4 f4
    replace e0 := f4.old e0 (by kernel_rfl)
    replace e1 := f4.old e1 (by kernel_rfl)
    replace e4 := f4.old e4 (by kernel_rfl)
    have e5 : get a4 5 = (.slice none 0 0) := f4.v 0 rfl
    have e6 : get a4 6 = (.slice none 0 0) := f4.v 1 rfl
    replace e16 := f4.old e16 (by kernel_rfl)
    clear f4
    show Code.wp _ _ _ a4 w4
    refine wp_seq ?_
    refine wp_seq ?_
    refine region_St (bf := [0]) (sp := [
        (det (Nw w) 7 (.int .i64 (0)))])
      [] mixed st4 (by kernel_rfl) trivial
      ⟨Ob.det rfl rfl rfl (fun _ a_ _ _ c => r_assign rfl rfl),
       trivial⟩ ?_
    intro a5 w5 τ5 st5 f5
    replace e0 := f5.old e0 (by kernel_rfl)
    replace e1 := f5.old e1 (by kernel_rfl)
    replace e4 := f5.old e4 (by kernel_rfl)
    replace e5 := f5.old e5 (by kernel_rfl)
    replace e6 := f5.old e6 (by kernel_rfl)
    have e7 : get a5 7 = (.int .i64 (0)) := f5.v 0 rfl
    replace e16 := f5.old e16 (by kernel_rfl)
    clear f5
    show Code.wp _ _ _ a5 w5
    refine wp_block ?_
    refine wp_loop (fun a_ w_ => ∃ (k : Nat) (oa ob : Value) (τ : Nat → Foot), (k ≤ xs.length) ∧
            St (Nw w) w 61 a_ w_ τ ∧
            get a_ 5 = oa ∧
            get a_ 6 = ob ∧
            get a_ 7 = (.int .i64 ((k : Int))) ∧
            get a_ 0 = v ∧
            get a_ 1 = u ∧
            get a_ 4 = (.bool (false)) ∧
            get a_ 16 = (.bool ((decide (20 < (xs.length : Int))) || (decide (20 < (ds.length : Int))))) ∧
            ownR SpanE 29 (dealt true xs ds k) (τ 0) oa w_ ∧
            ownR SpanE 29 (dealt false xs ds k) (τ 1) ob w_) (fun a_ _ => xs.length - (intOf (get a_ 7)).toNat) ?_ ?_
    · refine ⟨0, (.slice none 0 0), (.slice none 0 0), τ5, ?_, st5, e5, e6, (e7.trans (int_eq (by omega))), e0, e1, e4, e16, ?_, ?_⟩
      · omega
      · exact ownR.nil _ _ _ _
      · exact ownR.nil _ _ _ _
    · intro a6 w6 hI
      obtain ⟨k, oa, ob, τ6, q0, st6, e5, e6, e7, e0, e1, e4, e16, r0, r1⟩ := hI
      have hda := dealt_le true xs ds k
      have hdb := dealt_le false xs ds k
      have hua := unionF_le (dealt true xs ds k)
      have hub := unionF_le (dealt false xs ds k)
      have huab := @List.length_append _ (unionF (dealt true xs ds k)) (unionF (dealt false xs ds k))
      have m7 := e7
      refine wp_seq ?_
      refine wp_seq ?_
      refine region_St (bf := [0, 0, 2, 7]) (sp := [
          (det (Nw w) 18 (.int .i64 ((k : Int)))),
                (det (Nw w) 19 v),
                (det (Nw w) 20 (.int .i64 ((xs.length : Int)))),
                (det (Nw w) 21 (.bool (decide ((k : Int) < (xs.length : Int)))))])
        [(iown SpanE 29 (Nw w) oa (dealt true xs ds k)), (iown SpanE 29 (Nw w) ob (dealt false xs ds k))] mixed st6 (by kernel_rfl) ⟨r0, r1, trivial⟩
        ⟨Ob.det rfl rfl rfl (fun _ a_ _ _ c => r_move rfl (c.eo e7 (by kernel_rfl))),
               Ob.det rfl rfl rfl (fun _ a_ _ _ c => r_move rfl (c.eo e0 (by kernel_rfl))),
               Ob.det rfl rfl rfl (fun _ a_ _ _ c => r_len rfl Try.underlying22 (c.ev 1 rfl rfl) hS.sl),
               Ob.det rfl rfl rfl (fun _ a_ _ _ c => r_lss rfl (c.ev 0 rfl rfl) (c.ev 2 rfl rfl)),
         trivial⟩ ?_
      intro a7 w7 τ7 st7 f7
      replace e0 := f7.old e0 (by kernel_rfl)
      replace e1 := f7.old e1 (by kernel_rfl)
      replace e4 := f7.old e4 (by kernel_rfl)
      replace e5 := f7.old e5 (by kernel_rfl)
      replace e6 := f7.old e6 (by kernel_rfl)
      replace e7 := f7.old e7 (by kernel_rfl)
      replace e16 := f7.old e16 (by kernel_rfl)
      have e21 : get a7 21 = (.bool (decide ((k : Int) < (xs.length : Int)))) := f7.v 3 rfl
      replace r0 : ownR SpanE 29 (dealt true xs ds k) (τ7 0) oa w7 := f7.iown 0 rfl rfl
      replace r1 : ownR SpanE 29 (dealt false xs ds k) (τ7 1) ob w7 := f7.iown 1 rfl rfl
      clear f7
      show Code.wp _ _ _ a7 w7
      refine wp_cond_split (t := decide ((k : Int) < (xs.length : Int))) e21 (fun hc2 => ?_) (fun hc2 => ?_)
      · try simp only [Bool.and_eq_true, Bool.or_eq_true, decide_eq_true_eq, decide_eq_false_iff_not, Bool.not_eq_true', Bool.and_eq_false_iff, Bool.or_eq_false_iff, Bool.not_eq_false', Int.not_lt, Int.not_le, beq_iff_eq, spanB] at hc2
        refine wp_skip ?_
        show Code.wp _ _ _ a7 w7
        refine wp_seq ?_
        refine wp_block ?_
        refine wp_seq ?_
        refine region_St (bf := [0, 0, 2, 7, 15, 31, 31, 127, 255, 511]) (sp := [
            (det (Nw w) 24 (.int .i64 ((k : Int)))),
                    (det (Nw w) 25 u),
                    (det (Nw w) 26 (.int .i64 ((ds.length : Int)))),
                    (det (Nw w) 27 (.bool (decide ((k : Int) < (ds.length : Int))))),
                    (det (Nw w) 28 (.bool (decide ((k : Int) < (ds.length : Int))))),
                    (gdet (Nw w) 29 ((decide ((k : Int) < (ds.length : Int))) = true) u),
                    (gdet (Nw w) 30 ((decide ((k : Int) < (ds.length : Int))) = true) (.int .i64 ((k : Int)))),
                    (gdet (Nw w) 31 ((decide ((k : Int) < (ds.length : Int))) = true) (.pointer (some ((ptrOf u).add (((k : Int) : Int).toNat * 1))))),
                    (gdet (Nw w) 32 ((decide ((k : Int) < (ds.length : Int))) = true) (.bool ((nth ds ((k : Int)))))),
                    (det (Nw w) 33 (.bool ((decide ((k : Int) < (ds.length : Int))) && (nth ds ((k : Int))))))])
          [(iown SpanE 29 (Nw w) oa (dealt true xs ds k)), (iown SpanE 29 (Nw w) ob (dealt false xs ds k))] mixed st7 (by kernel_rfl) ⟨r0, r1, trivial⟩
          ⟨Ob.det rfl rfl rfl (fun _ a_ _ _ c => r_move rfl (c.eo e7 (by kernel_rfl))),
                   Ob.det rfl rfl rfl (fun _ a_ _ _ c => r_move rfl (c.eo e1 (by kernel_rfl))),
                   Ob.det rfl rfl rfl (fun _ a_ _ _ c => r_len rfl Try.underlying34 (c.ev 1 rfl rfl) hU.sl),
                   Ob.det rfl rfl rfl (fun _ a_ _ _ c => r_lss rfl (c.ev 0 rfl rfl) (c.ev 2 rfl rfl)),
                   Ob.det rfl rfl rfl (fun _ a_ _ _ c => r_move rfl (c.ev 3 rfl rfl)),
                   Ob.gdet rfl rfl rfl rfl (gi := 4) (tg := 28) rfl rfl Iff.rfl (fun _ a_ _ _ c hpc => r_move rfl (c.eo e1 (by kernel_rfl))),
                   Ob.gdet rfl rfl rfl rfl (gi := 4) (tg := 28) rfl rfl Iff.rfl (fun _ a_ _ _ c hpc => r_move rfl (c.eo e7 (by kernel_rfl))),
                   Ob.gdet rfl rfl rfl rfl (gi := 4) (tg := 28) rfl rfl Iff.rfl (fun _ a_ _ _ c hpc => r_indexAddr rfl Try.underlying34 Try.sizeOf4 (c.eg 5 rfl rfl hpc) hU.sl (c.eg 6 rfl rfl hpc) (by have hq0 := hpc; (try simp only [Bool.and_eq_true, Bool.or_eq_true, decide_eq_true_eq, decide_eq_false_iff_not, Bool.not_eq_true', Bool.and_eq_false_iff, Bool.or_eq_false_iff, Bool.not_eq_false', Int.not_lt, Int.not_le, beq_iff_eq, spanB] at hq0); omega) (by have hq0 := hpc; (try simp only [Bool.and_eq_true, Bool.or_eq_true, decide_eq_true_eq, decide_eq_false_iff_not, Bool.not_eq_true', Bool.and_eq_false_iff, Bool.or_eq_false_iff, Bool.not_eq_false', Int.not_lt, Int.not_le, beq_iff_eq, spanB] at hq0); omega)),
                   Ob.gdet rfl rfl rfl rfl (gi := 4) (tg := 28) rfl rfl Iff.rfl (fun _ a_ _ _ c hpc => r_load1 rfl Try.isAgg4 (c.eg 7 rfl rfl hpc) (((hU.at (st7.ext.trans c.J.ext))).elem (j := 0) (nth_some (by have hq0 := hpc; (try simp only [Bool.and_eq_true, Bool.or_eq_true, decide_eq_true_eq, decide_eq_false_iff_not, Bool.not_eq_true', Bool.and_eq_false_iff, Bool.or_eq_false_iff, Bool.not_eq_false', Int.not_lt, Int.not_le, beq_iff_eq, spanB] at hq0); omega) (by have hq0 := hpc; (try simp only [Bool.and_eq_true, Bool.or_eq_true, decide_eq_true_eq, decide_eq_false_iff_not, Bool.not_eq_true', Bool.and_eq_false_iff, Bool.or_eq_false_iff, Bool.not_eq_false', Int.not_lt, Int.not_le, beq_iff_eq, spanB] at hq0); omega)) rfl)),
                   Ob.det rfl rfl rfl (fun _ a_ _ _ c => r_and rfl (c.ev 4 rfl rfl) (fun h => (c.eg 8 rfl rfl h))),
           trivial⟩ ?_
        intro a8 w8 τ8 st8 f8
        replace e0 := f8.old e0 (by kernel_rfl)
        replace e1 := f8.old e1 (by kernel_rfl)
        replace e4 := f8.old e4 (by kernel_rfl)
        replace e5 := f8.old e5 (by kernel_rfl)
        replace e6 := f8.old e6 (by kernel_rfl)
        replace e7 := f8.old e7 (by kernel_rfl)
        replace e16 := f8.old e16 (by kernel_rfl)
        replace e21 := f8.old e21 (by kernel_rfl)
        have e33 : get a8 33 = (.bool ((decide ((k : Int) < (ds.length : Int))) && (nth ds ((k : Int))))) := f8.v 9 rfl
        replace r0 : ownR SpanE 29 (dealt true xs ds k) (τ8 0) oa w8 := f8.iown 0 rfl rfl
        replace r1 : ownR SpanE 29 (dealt false xs ds k) (τ8 1) ob w8 := f8.iown 1 rfl rfl
        clear f8
        show Code.wp _ _ _ a8 w8
        refine wp_cond_split (t := (decide ((k : Int) < (ds.length : Int))) && (nth ds ((k : Int)))) e33 (fun hc3 => ?_) (fun hc3 => ?_)
        · have hd3 := hc3; try simp only [Bool.and_eq_true, Bool.or_eq_true, decide_eq_true_eq, decide_eq_false_iff_not, Bool.not_eq_true', Bool.and_eq_false_iff, Bool.or_eq_false_iff, Bool.not_eq_false', Int.not_lt, Int.not_le, beq_iff_eq, spanB] at hd3
          refine region_St (bf := [0, 0, 0, 6, 14, 30, 63, 127]) (sp := [
              (det (Nw w) 34 oa),
                        (det (Nw w) 35 v),
                        (det (Nw w) 36 (.int .i64 ((k : Int)))),
                        (det (Nw w) 37 (.pointer (some ((ptrOf v).add (((k : Int) : Int).toNat * 2))))),
                        (det (Nw w) 38 (.agg #[(.int .i64 ((nth xs ((k : Int))).1)), (.int .i64 ((nth xs ((k : Int))).2))])),
                        (own SpanE 29 (Nw w) 2 39 ([(nth xs ((k : Int)))])),
                        (own SpanE 29 (Nw w) 0 40 ((dealt true xs ds k) ++ ([(nth xs ((k : Int)))]))),
                        (own SpanE 29 (Nw w) 0 5 ((dealt true xs ds k) ++ ([(nth xs ((k : Int)))])))])
            [(iown SpanE 29 (Nw w) oa (dealt true xs ds k)), (iown SpanE 29 (Nw w) ob (dealt false xs ds k))] mixed st8 (by kernel_rfl) ⟨r0, r1, trivial⟩
            ⟨Ob.det rfl rfl rfl (fun _ a_ _ _ c => r_move rfl (c.eo e5 (by kernel_rfl))),
                       Ob.det rfl rfl rfl (fun _ a_ _ _ c => r_move rfl (c.eo e0 (by kernel_rfl))),
                       Ob.det rfl rfl rfl (fun _ a_ _ _ c => r_move rfl (c.eo e7 (by kernel_rfl))),
                       Ob.det rfl rfl rfl (fun _ a_ _ _ c => r_indexAddr rfl Try.underlying22 Try.sizeOf29 (c.ev 1 rfl rfl) hS.sl (c.ev 2 rfl rfl) (by omega) (by omega)),
                       Ob.det rfl rfl rfl (fun _ a_ _ _ c => r_loadN (vs := [(.int .i64 ((nth xs ((k : Int))).1)), (.int .i64 ((nth xs ((k : Int))).2))]) rfl Try.isAgg29 Try.sizeOf29 (c.ev 3 rfl rfl) rfl (fun _ _ hj => ((hS.at (st8.ext.trans c.J.ext))).elem (nth_some (by omega) (by omega)) hj)),
                       Ob.buildSlice (cells := #[(.int .i64 ((nth xs ((k : Int))).1)), (.int .i64 ((nth xs ((k : Int))).2))]) rfl rfl rfl rfl Try.underlying22 Try.sizeOf29 Try.zeroValue29 rfl (by decide) (by decide) (fun _ a_ _ _ c => by simp only [List.map_toArray, List.map_cons, List.map_nil, (show a_.eval (.tmp 38) = (.agg #[(.int .i64 ((nth xs ((k : Int))).1)), (.int .i64 ((nth xs ((k : Int))).2))]) from (c.ev 4 rfl rfl))]; kernel_rfl) rfl,
                       Ob.append (t0 := 5) rfl rfl rfl rfl Try.underlying22 (i := Try.t29) rfl rfl rfl rfl (by simp only [maxLen]; (try simp); omega) (by show _ * 16 ≤ _; (try simp); omega) (fun _ _ _ _ c => ⟨by rw [(show get _ 5 = oa from c.old e5 (by kernel_rfl))]; exact c.iown 0 rfl rfl (by kernel_rfl), (c.ev 0 rfl rfl).trans (show oa = get _ 5 from (c.old e5 (by kernel_rfl)).symm), ⟨_, rfl, (c.rown 5 rfl rfl (by kernel_rfl)).1.sl⟩⟩),
                       Ob.moveT (t0 := 40) rfl rfl rfl rfl rfl (.inr rfl) (fun _ _ _ _ c => ⟨c.rown 6 rfl rfl (by kernel_rfl), rfl⟩),
             trivial⟩ ?_
          intro a9 w9 τ9 st9 f9
          obtain ⟨b9x39, e39⟩ : ∃ b, get a9 39 = b := ⟨_, rfl⟩
          obtain ⟨b9x5, e5⟩ : ∃ b, get a9 5 = b := ⟨_, rfl⟩
          replace e0 := f9.old e0 (by kernel_rfl)
          replace e1 := f9.old e1 (by kernel_rfl)
          replace e4 := f9.old e4 (by kernel_rfl)
          replace e6 := f9.old e6 (by kernel_rfl)
          replace e7 := f9.old e7 (by kernel_rfl)
          replace e16 := f9.old e16 (by kernel_rfl)
          replace e21 := f9.old e21 (by kernel_rfl)
          replace e33 := f9.old e33 (by kernel_rfl)
          have r0 : ownR SpanE 29 ((dealt true xs ds k) ++ ([(nth xs ((k : Int)))])) (τ9 0) b9x5 w9 := f9.rown 7 rfl rfl e5
          replace r1 : ownR SpanE 29 (dealt false xs ds k) (τ9 1) ob w9 := f9.iown 1 rfl rfl
          have r2 : ownR SpanE 29 ([(nth xs ((k : Int)))]) (τ9 2) b9x39 w9 := f9.rown 5 rfl rfl e39
          clear f9
          show _
          show Code.wp _ _ _ a9 w9
          refine region_St (bf := [0, 1, 3]) (sp := [
              (det (Nw w) 22 (.int .i64 ((k : Int)))),
                        (det (Nw w) 23 (.int .i64 ((k : Int) + 1))),
                        (det (Nw w) 7 (.int .i64 ((k : Int) + 1)))])
            [(iown SpanE 29 (Nw w) b9x5 ((dealt true xs ds k) ++ ([(nth xs ((k : Int)))]))), (iown SpanE 29 (Nw w) ob (dealt false xs ds k)), (iown SpanE 29 (Nw w) b9x39 ([(nth xs ((k : Int)))]))] mixed st9 (by kernel_rfl) ⟨r0, r1, r2, trivial⟩
            ⟨Ob.det rfl rfl rfl (fun _ a_ _ _ c => r_move rfl (c.eo e7 (by kernel_rfl))),
                       Ob.det rfl rfl rfl (fun _ a_ _ _ c => r_add rfl (c.ev 0 rfl rfl) rfl (by omega)),
                       Ob.det rfl rfl rfl (fun _ a_ _ _ c => r_assign rfl (c.ev 1 rfl rfl)),
             trivial⟩ ?_
          intro a10 w10 τ10 st10 f10
          replace e0 := f10.old e0 (by kernel_rfl)
          replace e1 := f10.old e1 (by kernel_rfl)
          replace e4 := f10.old e4 (by kernel_rfl)
          replace e5 := f10.old e5 (by kernel_rfl)
          replace e6 := f10.old e6 (by kernel_rfl)
          have e7 : get a10 7 = (.int .i64 ((k : Int) + 1)) := f10.v 2 rfl
          replace e16 := f10.old e16 (by kernel_rfl)
          replace e21 := f10.old e21 (by kernel_rfl)
          replace e33 := f10.old e33 (by kernel_rfl)
          replace r0 : ownR SpanE 29 ((dealt true xs ds k) ++ ([(nth xs ((k : Int)))])) (τ10 0) b9x5 w10 := f10.iown 0 rfl rfl
          replace r1 : ownR SpanE 29 (dealt false xs ds k) (τ10 1) ob w10 := f10.iown 1 rfl rfl
          replace r2 : ownR SpanE 29 ([(nth xs ((k : Int)))]) (τ10 2) b9x39 w10 := f10.iown 2 rfl rfl
          clear f10
          refine ⟨⟨k + 1, b9x5, ob, τ10, ?_, st10, e5, e6, (e7.trans (int_eq (by omega))), e0, e1, e4, e16, ?_, ?_⟩, ?_⟩
          · omega
          · exact r0.cast (by first | exact dealt_in (by assumption) | exact dealt_out (by assumption) (by decide))
          · exact r1.cast (by first | exact dealt_in (by assumption) | exact dealt_out (by assumption) (by decide))
          · simp only [m7, e7, intOf]; omega
        · have hd3 := hc3; try simp only [Bool.and_eq_true, Bool.or_eq_true, decide_eq_true_eq, decide_eq_false_iff_not, Bool.not_eq_true', Bool.and_eq_false_iff, Bool.or_eq_false_iff, Bool.not_eq_false', Int.not_lt, Int.not_le, beq_iff_eq, spanB] at hd3
          refine region_St (bf := [0, 0, 0, 6, 14, 30, 63, 127]) (sp := [
              (det (Nw w) 41 ob),
                        (det (Nw w) 42 v),
                        (det (Nw w) 43 (.int .i64 ((k : Int)))),
                        (det (Nw w) 44 (.pointer (some ((ptrOf v).add (((k : Int) : Int).toNat * 2))))),
                        (det (Nw w) 45 (.agg #[(.int .i64 ((nth xs ((k : Int))).1)), (.int .i64 ((nth xs ((k : Int))).2))])),
                        (own SpanE 29 (Nw w) 2 46 ([(nth xs ((k : Int)))])),
                        (own SpanE 29 (Nw w) 1 47 ((dealt false xs ds k) ++ ([(nth xs ((k : Int)))]))),
                        (own SpanE 29 (Nw w) 1 6 ((dealt false xs ds k) ++ ([(nth xs ((k : Int)))])))])
            [(iown SpanE 29 (Nw w) oa (dealt true xs ds k)), (iown SpanE 29 (Nw w) ob (dealt false xs ds k))] mixed st8 (by kernel_rfl) ⟨r0, r1, trivial⟩
            ⟨Ob.det rfl rfl rfl (fun _ a_ _ _ c => r_move rfl (c.eo e6 (by kernel_rfl))),
                       Ob.det rfl rfl rfl (fun _ a_ _ _ c => r_move rfl (c.eo e0 (by kernel_rfl))),
                       Ob.det rfl rfl rfl (fun _ a_ _ _ c => r_move rfl (c.eo e7 (by kernel_rfl))),
                       Ob.det rfl rfl rfl (fun _ a_ _ _ c => r_indexAddr rfl Try.underlying22 Try.sizeOf29 (c.ev 1 rfl rfl) hS.sl (c.ev 2 rfl rfl) (by omega) (by omega)),
                       Ob.det rfl rfl rfl (fun _ a_ _ _ c => r_loadN (vs := [(.int .i64 ((nth xs ((k : Int))).1)), (.int .i64 ((nth xs ((k : Int))).2))]) rfl Try.isAgg29 Try.sizeOf29 (c.ev 3 rfl rfl) rfl (fun _ _ hj => ((hS.at (st8.ext.trans c.J.ext))).elem (nth_some (by omega) (by omega)) hj)),
                       Ob.buildSlice (cells := #[(.int .i64 ((nth xs ((k : Int))).1)), (.int .i64 ((nth xs ((k : Int))).2))]) rfl rfl rfl rfl Try.underlying22 Try.sizeOf29 Try.zeroValue29 rfl (by decide) (by decide) (fun _ a_ _ _ c => by simp only [List.map_toArray, List.map_cons, List.map_nil, (show a_.eval (.tmp 45) = (.agg #[(.int .i64 ((nth xs ((k : Int))).1)), (.int .i64 ((nth xs ((k : Int))).2))]) from (c.ev 4 rfl rfl))]; kernel_rfl) rfl,
                       Ob.append (t0 := 6) rfl rfl rfl rfl Try.underlying22 (i := Try.t29) rfl rfl rfl rfl (by simp only [maxLen]; (try simp); omega) (by show _ * 16 ≤ _; (try simp); omega) (fun _ _ _ _ c => ⟨by rw [(show get _ 6 = ob from c.old e6 (by kernel_rfl))]; exact c.iown 1 rfl rfl (by kernel_rfl), (c.ev 0 rfl rfl).trans (show ob = get _ 6 from (c.old e6 (by kernel_rfl)).symm), ⟨_, rfl, (c.rown 5 rfl rfl (by kernel_rfl)).1.sl⟩⟩),
                       Ob.moveT (t0 := 47) rfl rfl rfl rfl rfl (.inr rfl) (fun _ _ _ _ c => ⟨c.rown 6 rfl rfl (by kernel_rfl), rfl⟩),
             trivial⟩ ?_
          intro a11 w11 τ11 st11 f11
          obtain ⟨b11x46, e46⟩ : ∃ b, get a11 46 = b := ⟨_, rfl⟩
          obtain ⟨b11x6, e6⟩ : ∃ b, get a11 6 = b := ⟨_, rfl⟩
          replace e0 := f11.old e0 (by kernel_rfl)
          replace e1 := f11.old e1 (by kernel_rfl)
          replace e4 := f11.old e4 (by kernel_rfl)
          replace e5 := f11.old e5 (by kernel_rfl)
          replace e7 := f11.old e7 (by kernel_rfl)
          replace e16 := f11.old e16 (by kernel_rfl)
          replace e21 := f11.old e21 (by kernel_rfl)
          replace e33 := f11.old e33 (by kernel_rfl)
          replace r0 : ownR SpanE 29 (dealt true xs ds k) (τ11 0) oa w11 := f11.iown 0 rfl rfl
          have r1 : ownR SpanE 29 ((dealt false xs ds k) ++ ([(nth xs ((k : Int)))])) (τ11 1) b11x6 w11 := f11.rown 7 rfl rfl e6
          have r2 : ownR SpanE 29 ([(nth xs ((k : Int)))]) (τ11 2) b11x46 w11 := f11.rown 5 rfl rfl e46
          clear f11
          show _
          show Code.wp _ _ _ a11 w11
          refine region_St (bf := [0, 1, 3]) (sp := [
              (det (Nw w) 22 (.int .i64 ((k : Int)))),
                        (det (Nw w) 23 (.int .i64 ((k : Int) + 1))),
                        (det (Nw w) 7 (.int .i64 ((k : Int) + 1)))])
            [(iown SpanE 29 (Nw w) oa (dealt true xs ds k)), (iown SpanE 29 (Nw w) b11x6 ((dealt false xs ds k) ++ ([(nth xs ((k : Int)))]))), (iown SpanE 29 (Nw w) b11x46 ([(nth xs ((k : Int)))]))] mixed st11 (by kernel_rfl) ⟨r0, r1, r2, trivial⟩
            ⟨Ob.det rfl rfl rfl (fun _ a_ _ _ c => r_move rfl (c.eo e7 (by kernel_rfl))),
                       Ob.det rfl rfl rfl (fun _ a_ _ _ c => r_add rfl (c.ev 0 rfl rfl) rfl (by omega)),
                       Ob.det rfl rfl rfl (fun _ a_ _ _ c => r_assign rfl (c.ev 1 rfl rfl)),
             trivial⟩ ?_
          intro a12 w12 τ12 st12 f12
          replace e0 := f12.old e0 (by kernel_rfl)
          replace e1 := f12.old e1 (by kernel_rfl)
          replace e4 := f12.old e4 (by kernel_rfl)
          replace e5 := f12.old e5 (by kernel_rfl)
          replace e6 := f12.old e6 (by kernel_rfl)
          have e7 : get a12 7 = (.int .i64 ((k : Int) + 1)) := f12.v 2 rfl
          replace e16 := f12.old e16 (by kernel_rfl)
          replace e21 := f12.old e21 (by kernel_rfl)
          replace e33 := f12.old e33 (by kernel_rfl)
          replace r0 : ownR SpanE 29 (dealt true xs ds k) (τ12 0) oa w12 := f12.iown 0 rfl rfl
          replace r1 : ownR SpanE 29 ((dealt false xs ds k) ++ ([(nth xs ((k : Int)))])) (τ12 1) b11x6 w12 := f12.iown 1 rfl rfl
          replace r2 : ownR SpanE 29 ([(nth xs ((k : Int)))]) (τ12 2) b11x46 w12 := f12.iown 2 rfl rfl
          clear f12
          refine ⟨⟨k + 1, oa, b11x6, τ12, ?_, st12, e5, e6, (e7.trans (int_eq (by omega))), e0, e1, e4, e16, ?_, ?_⟩, ?_⟩
          · omega
          · exact r0.cast (by first | exact dealt_in (by assumption) | exact dealt_out (by assumption) (by decide))
          · exact r1.cast (by first | exact dealt_in (by assumption) | exact dealt_out (by assumption) (by decide))
          · simp only [m7, e7, intOf]; omega
      · try simp only [Bool.and_eq_true, Bool.or_eq_true, decide_eq_true_eq, decide_eq_false_iff_not, Bool.not_eq_true', Bool.and_eq_false_iff, Bool.or_eq_false_iff, Bool.not_eq_false', Int.not_lt, Int.not_le, beq_iff_eq, spanB] at hc2
        refine wp_exit ?_
        repeat (with_reducible refine then_exit ?_)
        refine exit_here ?_
        show Code.wp _ _ _ a7 w7
        refine wp_seq ?_
        refine region_St (bf := [0, 1, 0, 7, 15, 31]) (sp := [
            (det (Nw w) 48 oa),
                    (own SpanE 29 (Nw w) 2 49 (unionF (dealt true xs ds k))),
                    (det (Nw w) 50 ob),
                    (own SpanE 29 (Nw w) 3 51 (unionF (dealt false xs ds k))),
                    (own SpanE 29 (Nw w) 2 52 ((unionF (dealt true xs ds k)) ++ (unionF (dealt false xs ds k)))),
                    (own SpanE 29 (Nw w) 2 8 ((unionF (dealt true xs ds k)) ++ (unionF (dealt false xs ds k))))])
          [(iown SpanE 29 (Nw w) oa (dealt true xs ds k)), (iown SpanE 29 (Nw w) ob (dealt false xs ds k))] mixed st7 (by kernel_rfl) ⟨r0, r1, trivial⟩
          ⟨Ob.det rfl rfl rfl (fun _ a_ _ _ c => r_move rfl (c.eo e5 (by kernel_rfl))),
                   Ob.callOwn rfl rfl rfl (fun _ a_ _ _ c => ⟨_, _, (e_call1 rfl rfl Try.call13 (c.ev 0 rfl rfl)), union_c oa (dealt true xs ds k) _ (c.iown 0 rfl rfl (by kernel_rfl)).1.sl (by omega)⟩),
                   Ob.det rfl rfl rfl (fun _ a_ _ _ c => r_move rfl (c.eo e6 (by kernel_rfl))),
                   Ob.callOwn rfl rfl rfl (fun _ a_ _ _ c => ⟨_, _, (e_call1 rfl rfl Try.call13 (c.ev 2 rfl rfl)), union_c ob (dealt false xs ds k) _ (c.iown 1 rfl rfl (by kernel_rfl)).1.sl (by omega)⟩),
                   Ob.append (t0 := 49) rfl rfl rfl rfl Try.underlying22 (i := Try.t29) rfl rfl rfl rfl (by simp only [maxLen]; (try simp); omega) (by show _ * 16 ≤ _; (try simp); omega) (fun _ _ _ _ c => ⟨c.rown 1 rfl rfl (by kernel_rfl), rfl, ⟨_, rfl, (c.rown 3 rfl rfl (by kernel_rfl)).1.sl⟩⟩),
                   Ob.moveT (t0 := 52) rfl rfl rfl rfl rfl (.inr rfl) (fun _ _ _ _ c => ⟨c.rown 4 rfl rfl (by kernel_rfl), rfl⟩),
           trivial⟩ ?_
        intro a13 w13 τ13 st13 f13
        obtain ⟨b13x8, e8⟩ : ∃ b, get a13 8 = b := ⟨_, rfl⟩
        obtain ⟨b13x51, e51⟩ : ∃ b, get a13 51 = b := ⟨_, rfl⟩
        replace e0 := f13.old e0 (by kernel_rfl)
        replace e1 := f13.old e1 (by kernel_rfl)
        replace e4 := f13.old e4 (by kernel_rfl)
        replace e5 := f13.old e5 (by kernel_rfl)
        replace e6 := f13.old e6 (by kernel_rfl)
        replace e7 := f13.old e7 (by kernel_rfl)
        replace e16 := f13.old e16 (by kernel_rfl)
        replace e21 := f13.old e21 (by kernel_rfl)
        replace r0 : ownR SpanE 29 (dealt true xs ds k) (τ13 0) oa w13 := f13.iown 0 rfl rfl
        replace r1 : ownR SpanE 29 (dealt false xs ds k) (τ13 1) ob w13 := f13.iown 1 rfl rfl
        have r2 : ownR SpanE 29 ((unionF (dealt true xs ds k)) ++ (unionF (dealt false xs ds k))) (τ13 2) b13x8 w13 := f13.rown 5 rfl rfl e8
        have r3 : ownR SpanE 29 (unionF (dealt false xs ds k)) (τ13 3) b13x51 w13 := f13.rown 3 rfl rfl e51
        clear f13
        show Code.wp _ _ _ a13 w13
        refine wp_seq ?_
        refine region_St (bf := [0, 1, 0, 7, 15, 31, 63, 127, 255]) (sp := [
            (det (Nw w) 53 b13x8),
                    (own SpanE 29 (Nw w) 4 54 (unionF ((unionF (dealt true xs ds k)) ++ (unionF (dealt false xs ds k))))),
                    (det (Nw w) 55 v),
                    (own SpanE 29 (Nw w) 5 56 (unionF xs)),
                    (det (Nw w) 57 (.bool (decide (unionF ((unionF (dealt true xs ds k)) ++ (unionF (dealt false xs ds k))) = unionF xs)))),
                    (det (Nw w) 58 (.bool (decide (unionF ((unionF (dealt true xs ds k)) ++ (unionF (dealt false xs ds k))) = unionF xs)))),
                    (gdet (Nw w) 59 ((decide (unionF ((unionF (dealt true xs ds k)) ++ (unionF (dealt false xs ds k))) = unionF xs)) = true) (.bool (true))),
                    (det (Nw w) 60 (.bool ((decide (unionF ((unionF (dealt true xs ds k)) ++ (unionF (dealt false xs ds k))) = unionF xs)) && true))),
                    (det (Nw w) 4 (.bool ((decide (unionF ((unionF (dealt true xs ds k)) ++ (unionF (dealt false xs ds k))) = unionF xs)) && true)))])
          [(iown SpanE 29 (Nw w) oa (dealt true xs ds k)), (iown SpanE 29 (Nw w) ob (dealt false xs ds k)), (iown SpanE 29 (Nw w) b13x8 ((unionF (dealt true xs ds k)) ++ (unionF (dealt false xs ds k)))), (iown SpanE 29 (Nw w) b13x51 (unionF (dealt false xs ds k)))] mixed st13 (by kernel_rfl) ⟨r0, r1, r2, r3, trivial⟩
          ⟨Ob.det rfl rfl rfl (fun _ a_ _ _ c => r_move rfl (c.eo e8 (by kernel_rfl))),
                   Ob.callOwn rfl rfl rfl (fun _ a_ _ _ c => ⟨_, _, (e_call1 rfl rfl Try.call13 (c.ev 0 rfl rfl)), union_c b13x8 ((unionF (dealt true xs ds k)) ++ (unionF (dealt false xs ds k))) _ (c.iown 2 rfl rfl (by kernel_rfl)).1.sl (by omega)⟩),
                   Ob.det rfl rfl rfl (fun _ a_ _ _ c => r_move rfl (c.eo e0 (by kernel_rfl))),
                   Ob.callOwn rfl rfl rfl (fun _ a_ _ _ c => ⟨_, _, (e_call1 rfl rfl Try.call13 (c.ev 2 rfl rfl)), union_c v xs _ (hS.at (st13.ext.trans c.J.ext)) (by omega)⟩),
                   Ob.call rfl rfl rfl (fun _ a_ _ _ c => ⟨_, _, (e_call2 rfl rfl Try.call12 (eval_tmp _ 54) (eval_tmp _ 56)), spans_c _ _ (unionF ((unionF (dealt true xs ds k)) ++ (unionF (dealt false xs ds k)))) (unionF xs) _ (c.rown 1 rfl rfl (by kernel_rfl)).1.sl (c.rown 3 rfl rfl (by kernel_rfl)).1.sl⟩),
                   Ob.det rfl rfl rfl (fun _ a_ _ _ c => r_move rfl (c.ev 4 rfl rfl)),
                   Ob.gcall rfl rfl rfl rfl (gi := 5) (tg := 58) rfl rfl Iff.rfl (fun _ a_ _ _ c hpc => ⟨_, _, (e_call0 rfl rfl Try.call11), awake_c _⟩),
                   Ob.det rfl rfl rfl (fun _ a_ _ _ c => r_and rfl (c.ev 5 rfl rfl) (fun h => (c.eg 6 rfl rfl h))),
                   Ob.det rfl rfl rfl (fun _ a_ _ _ c => r_assign rfl (c.ev 7 rfl rfl)),
           trivial⟩ ?_
        intro a14 w14 τ14 st14 f14
        obtain ⟨b14x54, e54⟩ : ∃ b, get a14 54 = b := ⟨_, rfl⟩
        obtain ⟨b14x56, e56⟩ : ∃ b, get a14 56 = b := ⟨_, rfl⟩
        replace e0 := f14.old e0 (by kernel_rfl)
        replace e1 := f14.old e1 (by kernel_rfl)
        have e4 : get a14 4 = (.bool ((decide (unionF ((unionF (dealt true xs ds k)) ++ (unionF (dealt false xs ds k))) = unionF xs)) && true)) := f14.v 8 rfl
        replace e5 := f14.old e5 (by kernel_rfl)
        replace e6 := f14.old e6 (by kernel_rfl)
        replace e7 := f14.old e7 (by kernel_rfl)
        replace e8 := f14.old e8 (by kernel_rfl)
        replace e16 := f14.old e16 (by kernel_rfl)
        replace e21 := f14.old e21 (by kernel_rfl)
        replace r0 : ownR SpanE 29 (dealt true xs ds k) (τ14 0) oa w14 := f14.iown 0 rfl rfl
        replace r1 : ownR SpanE 29 (dealt false xs ds k) (τ14 1) ob w14 := f14.iown 1 rfl rfl
        replace r2 : ownR SpanE 29 ((unionF (dealt true xs ds k)) ++ (unionF (dealt false xs ds k))) (τ14 2) b13x8 w14 := f14.iown 2 rfl rfl
        replace r3 : ownR SpanE 29 (unionF (dealt false xs ds k)) (τ14 3) b13x51 w14 := f14.iown 3 rfl rfl
        have r4 : ownR SpanE 29 (unionF ((unionF (dealt true xs ds k)) ++ (unionF (dealt false xs ds k)))) (τ14 4) b14x54 w14 := f14.rown 1 rfl rfl e54
        have r5 : ownR SpanE 29 (unionF xs) (τ14 5) b14x56 w14 := f14.rown 3 rfl rfl e56
        clear f14
        show Code.wp _ _ _ a14 w14
        refine wp_ret ?_
        repeat (first | with_reducible refine then_ret ?_ | with_reducible refine block_ret ?_)
        refine ret1 (fn := Try.f8) rfl st14.defers e4 ?_
        exact ⟨congrArg _ (congrArg _ (show ((decide (unionF ((unionF (dealt true xs ds k)) ++ (unionF (dealt false xs ds k))) = unionF xs)) && true) = true from by rw [unionF_cov (dealt_cov (by omega))]; simp)), st14.ext0⟩

set_option maxRecDepth 100000 in
theorem spanTells_c (p q : Int × Int) (n m : Int) (w : World) : Calls Try.prog 9 #[spanV p, spanV q, .int .i64 n, .int .i64 m] w (fun e w' => e = .returned (.bool (true)) ∧ Ext none' w w') := by
  refine enter (n := 55) Try.func9 rfl rfl (Nat.le_of_ble_eq_true rfl) ?_
  intro a0 τ0 ha st0
  have e0 : get a0 0 = (.agg #[(.int .i64 (p.1)), (.int .i64 (p.2))]) := ha 0 _ rfl
  have e1 : get a0 1 = (.agg #[(.int .i64 (q.1)), (.int .i64 (q.2))]) := ha 1 _ rfl
  have e2 : get a0 2 = (.int .i64 (n)) := ha 2 _ rfl
  have e3 : get a0 3 = (.int .i64 (m)) := ha 3 _ rfl
  clear ha
  refine wp_seq ?_
  refine region_St (bf := [0, 0, 0]) (sp := [
      (box 29 (Nw w) 0 4 [(.int .i64 (p.1)), (.int .i64 (p.2))]),
        (box 29 (Nw w) 1 5 [(.int .i64 (q.1)), (.int .i64 (q.2))]),
        (det (Nw w) 8 (.bool (false)))])
    [] mixed st0 (by kernel_rfl) trivial
    ⟨Ob.box (v := (.agg #[(.int .i64 (p.1)), (.int .i64 (p.2))])) rfl rfl rfl rfl rfl (fun _ _ _ _ c => (c.eo e0 (by kernel_rfl))),
       Ob.box (v := (.agg #[(.int .i64 (q.1)), (.int .i64 (q.2))])) rfl rfl rfl rfl rfl (fun _ _ _ _ c => (c.eo e1 (by kernel_rfl))),
       Ob.det rfl rfl rfl (fun _ a_ _ _ c => r_assign rfl rfl),
     trivial⟩ ?_
  intro a1 w1 τ1 st1 f1
  obtain ⟨b1x4, e4⟩ : ∃ b, get a1 4 = b := ⟨_, rfl⟩
  obtain ⟨b1x5, e5⟩ : ∃ b, get a1 5 = b := ⟨_, rfl⟩
  replace e0 := f1.old e0 (by kernel_rfl)
  replace e1 := f1.old e1 (by kernel_rfl)
  replace e2 := f1.old e2 (by kernel_rfl)
  replace e3 := f1.old e3 (by kernel_rfl)
  have e8 : get a1 8 = (.bool (false)) := f1.v 2 rfl
  have r0 : boxR 29 [(.int .i64 (p.1)), (.int .i64 (p.2))] (τ1 0) b1x4 w1 := f1.rbox 0 rfl rfl e4
  have r1 : boxR 29 [(.int .i64 (q.1)), (.int .i64 (q.2))] (τ1 1) b1x5 w1 := f1.rbox 1 rfl rfl e5
  clear f1
  show Code.wp _ _ _ a1 w1
  refine wp_seq ?_
  refine region_St (bf := [0, 0, 3, 0, 0, 31, 63, 127, 255, 255, 1023, 255, 255, 8191, 16383, 32767, 65535, 131071, 131071, 524287, 131071, 131071, 4194303, 8388607, 16777215, 33554431, 67108863, 67108863, 268435455, 67108863, 67108863, 2147483647, 4294967295, 8589934591, 17179869183, 34359738367, 34359738367, 137438953471, 34359738367, 34359738367, 1099511627775, 2199023255551, 4398046511103, 8796093022207, 17592186044415, 35184372088831, 70368744177663]) (sp := [
      (det (Nw w) 9 (.agg #[(.int .i64 (p.1)), (.int .i64 (p.2))])),
        (det (Nw w) 10 (.int .i64 (n))),
        (det (Nw w) 11 (.bool (mayB p n))),
        (det (Nw w) 12 (.agg #[(.int .i64 (p.1)), (.int .i64 (p.2))])),
        (det (Nw w) 13 (.int .i64 (n))),
        (det (Nw w) 14 (.bool (mayB p n))),
        (det (Nw w) 15 (.bool ((mayB p n) == (mayB p n)))),
        (det (Nw w) 16 (.bool ((mayB p n) == (mayB p n)))),
        (gdet (Nw w) 17 (((mayB p n) == (mayB p n)) = true) (.agg #[(.int .i64 (p.1)), (.int .i64 (p.2))])),
        (gdet (Nw w) 18 (((mayB p n) == (mayB p n)) = true) (.int .i64 (m))),
        (gdet (Nw w) 19 (((mayB p n) == (mayB p n)) = true) (.bool (hasB p m))),
        (gdet (Nw w) 20 (((mayB p n) == (mayB p n)) = true) (.agg #[(.int .i64 (p.1)), (.int .i64 (p.2))])),
        (gdet (Nw w) 21 (((mayB p n) == (mayB p n)) = true) (.int .i64 (m))),
        (gdet (Nw w) 22 (((mayB p n) == (mayB p n)) = true) (.bool (hasB p m))),
        (gdet (Nw w) 23 (((mayB p n) == (mayB p n)) = true) (.bool ((hasB p m) == (hasB p m)))),
        (det (Nw w) 24 (.bool (((mayB p n) == (mayB p n)) && ((hasB p m) == (hasB p m))))),
        (det (Nw w) 25 (.bool (((mayB p n) == (mayB p n)) && ((hasB p m) == (hasB p m))))),
        (gdet (Nw w) 26 ((((mayB p n) == (mayB p n)) && ((hasB p m) == (hasB p m))) = true) (.agg #[(.int .i64 (p.1)), (.int .i64 (p.2))])),
        (gdet (Nw w) 27 ((((mayB p n) == (mayB p n)) && ((hasB p m) == (hasB p m))) = true) (.agg #[(.int .i64 (q.1)), (.int .i64 (q.2))])),
        (gdet (Nw w) 28 ((((mayB p n) == (mayB p n)) && ((hasB p m) == (hasB p m))) = true) (.bool (withinB p q))),
        (gdet (Nw w) 29 ((((mayB p n) == (mayB p n)) && ((hasB p m) == (hasB p m))) = true) (.agg #[(.int .i64 (p.1)), (.int .i64 (p.2))])),
        (gdet (Nw w) 30 ((((mayB p n) == (mayB p n)) && ((hasB p m) == (hasB p m))) = true) (.agg #[(.int .i64 (q.1)), (.int .i64 (q.2))])),
        (gdet (Nw w) 31 ((((mayB p n) == (mayB p n)) && ((hasB p m) == (hasB p m))) = true) (.bool (withinB p q))),
        (gdet (Nw w) 32 ((((mayB p n) == (mayB p n)) && ((hasB p m) == (hasB p m))) = true) (.bool ((withinB p q) == (withinB p q)))),
        (det (Nw w) 33 (.bool ((((mayB p n) == (mayB p n)) && ((hasB p m) == (hasB p m))) && ((withinB p q) == (withinB p q))))),
        (det (Nw w) 34 (.bool ((((mayB p n) == (mayB p n)) && ((hasB p m) == (hasB p m))) && ((withinB p q) == (withinB p q))))),
        (gdet (Nw w) 35 (((((mayB p n) == (mayB p n)) && ((hasB p m) == (hasB p m))) && ((withinB p q) == (withinB p q))) = true) (.agg #[(.int .i64 (p.1)), (.int .i64 (p.2))])),
        (gdet (Nw w) 36 (((((mayB p n) == (mayB p n)) && ((hasB p m) == (hasB p m))) && ((withinB p q) == (withinB p q))) = true) (.agg #[(.int .i64 (q.1)), (.int .i64 (q.2))])),
        (gdet (Nw w) 37 (((((mayB p n) == (mayB p n)) && ((hasB p m) == (hasB p m))) && ((withinB p q) == (withinB p q))) = true) (.bool (overlapB p q))),
        (gdet (Nw w) 38 (((((mayB p n) == (mayB p n)) && ((hasB p m) == (hasB p m))) && ((withinB p q) == (withinB p q))) = true) (.agg #[(.int .i64 (p.1)), (.int .i64 (p.2))])),
        (gdet (Nw w) 39 (((((mayB p n) == (mayB p n)) && ((hasB p m) == (hasB p m))) && ((withinB p q) == (withinB p q))) = true) (.agg #[(.int .i64 (q.1)), (.int .i64 (q.2))])),
        (gdet (Nw w) 40 (((((mayB p n) == (mayB p n)) && ((hasB p m) == (hasB p m))) && ((withinB p q) == (withinB p q))) = true) (.bool (overlapB p q))),
        (gdet (Nw w) 41 (((((mayB p n) == (mayB p n)) && ((hasB p m) == (hasB p m))) && ((withinB p q) == (withinB p q))) = true) (.bool ((overlapB p q) == (overlapB p q)))),
        (det (Nw w) 42 (.bool (((((mayB p n) == (mayB p n)) && ((hasB p m) == (hasB p m))) && ((withinB p q) == (withinB p q))) && ((overlapB p q) == (overlapB p q))))),
        (det (Nw w) 43 (.bool (((((mayB p n) == (mayB p n)) && ((hasB p m) == (hasB p m))) && ((withinB p q) == (withinB p q))) && ((overlapB p q) == (overlapB p q))))),
        (gdet (Nw w) 44 ((((((mayB p n) == (mayB p n)) && ((hasB p m) == (hasB p m))) && ((withinB p q) == (withinB p q))) && ((overlapB p q) == (overlapB p q))) = true) (.agg #[(.int .i64 (p.1)), (.int .i64 (p.2))])),
        (gdet (Nw w) 45 ((((((mayB p n) == (mayB p n)) && ((hasB p m) == (hasB p m))) && ((withinB p q) == (withinB p q))) && ((overlapB p q) == (overlapB p q))) = true) (.agg #[(.int .i64 (q.1)), (.int .i64 (q.2))])),
        (gdet (Nw w) 46 ((((((mayB p n) == (mayB p n)) && ((hasB p m) == (hasB p m))) && ((withinB p q) == (withinB p q))) && ((overlapB p q) == (overlapB p q))) = true) (.bool (touchB p q))),
        (gdet (Nw w) 47 ((((((mayB p n) == (mayB p n)) && ((hasB p m) == (hasB p m))) && ((withinB p q) == (withinB p q))) && ((overlapB p q) == (overlapB p q))) = true) (.agg #[(.int .i64 (p.1)), (.int .i64 (p.2))])),
        (gdet (Nw w) 48 ((((((mayB p n) == (mayB p n)) && ((hasB p m) == (hasB p m))) && ((withinB p q) == (withinB p q))) && ((overlapB p q) == (overlapB p q))) = true) (.agg #[(.int .i64 (q.1)), (.int .i64 (q.2))])),
        (gdet (Nw w) 49 ((((((mayB p n) == (mayB p n)) && ((hasB p m) == (hasB p m))) && ((withinB p q) == (withinB p q))) && ((overlapB p q) == (overlapB p q))) = true) (.bool (touchB p q))),
        (gdet (Nw w) 50 ((((((mayB p n) == (mayB p n)) && ((hasB p m) == (hasB p m))) && ((withinB p q) == (withinB p q))) && ((overlapB p q) == (overlapB p q))) = true) (.bool ((touchB p q) == (touchB p q)))),
        (det (Nw w) 51 (.bool ((((((mayB p n) == (mayB p n)) && ((hasB p m) == (hasB p m))) && ((withinB p q) == (withinB p q))) && ((overlapB p q) == (overlapB p q))) && ((touchB p q) == (touchB p q))))),
        (det (Nw w) 52 (.bool ((((((mayB p n) == (mayB p n)) && ((hasB p m) == (hasB p m))) && ((withinB p q) == (withinB p q))) && ((overlapB p q) == (overlapB p q))) && ((touchB p q) == (touchB p q))))),
        (gdet (Nw w) 53 (((((((mayB p n) == (mayB p n)) && ((hasB p m) == (hasB p m))) && ((withinB p q) == (withinB p q))) && ((overlapB p q) == (overlapB p q))) && ((touchB p q) == (touchB p q))) = true) (.bool (true))),
        (det (Nw w) 54 (.bool (((((((mayB p n) == (mayB p n)) && ((hasB p m) == (hasB p m))) && ((withinB p q) == (withinB p q))) && ((overlapB p q) == (overlapB p q))) && ((touchB p q) == (touchB p q))) && true))),
        (det (Nw w) 8 (.bool (((((((mayB p n) == (mayB p n)) && ((hasB p m) == (hasB p m))) && ((withinB p q) == (withinB p q))) && ((overlapB p q) == (overlapB p q))) && ((touchB p q) == (touchB p q))) && true)))])
    [(ibox 29 (Nw w) b1x4 [(.int .i64 (p.1)), (.int .i64 (p.2))]), (ibox 29 (Nw w) b1x5 [(.int .i64 (q.1)), (.int .i64 (q.2))])] mixed st1 (by kernel_rfl) ⟨r0, r1, trivial⟩
    ⟨Ob.det rfl rfl rfl (fun _ a_ _ _ c => r_loadN (vs := [(.int .i64 (p.1)), (.int .i64 (p.2))]) rfl Try.isAgg29 Try.sizeOf29 ((c.eo e4 (by kernel_rfl)).trans r0.ptr) rfl (fun _ _ hj => (c.ibox 0 rfl rfl (by kernel_rfl)).cell hj)),
       Ob.det rfl rfl rfl (fun _ a_ _ _ c => r_move rfl (c.eo e2 (by kernel_rfl))),
       Ob.call rfl rfl rfl (fun _ a_ _ _ c => ⟨_, _, (e_call2 rfl rfl Try.call19 (c.ev 0 rfl rfl) (c.ev 1 rfl rfl)), may_c p n _⟩),
       Ob.det rfl rfl rfl (fun _ a_ _ _ c => r_loadN (vs := [(.int .i64 (p.1)), (.int .i64 (p.2))]) rfl Try.isAgg29 Try.sizeOf29 ((c.eo e4 (by kernel_rfl)).trans r0.ptr) rfl (fun _ _ hj => (c.ibox 0 rfl rfl (by kernel_rfl)).cell hj)),
       Ob.det rfl rfl rfl (fun _ a_ _ _ c => r_move rfl (c.eo e2 (by kernel_rfl))),
       Ob.call rfl rfl rfl (fun _ a_ _ _ c => ⟨_, _, (e_call2 rfl rfl Try.call20 (c.ev 3 rfl rfl) (c.ev 4 rfl rfl)), refMay_c p n _⟩),
       Ob.det rfl rfl rfl (fun _ a_ _ _ c => r_beql rfl Try.underlying4 (c.ev 2 rfl rfl) (c.ev 5 rfl rfl)),
       Ob.det rfl rfl rfl (fun _ a_ _ _ c => r_move rfl (c.ev 6 rfl rfl)),
       Ob.gdet rfl rfl rfl rfl (gi := 7) (tg := 16) rfl rfl Iff.rfl (fun _ a_ _ _ c hpc => r_loadN (vs := [(.int .i64 (p.1)), (.int .i64 (p.2))]) rfl Try.isAgg29 Try.sizeOf29 ((c.eo e4 (by kernel_rfl)).trans r0.ptr) rfl (fun _ _ hj => (c.ibox 0 rfl rfl (by kernel_rfl)).cell hj)),
       Ob.gdet rfl rfl rfl rfl (gi := 7) (tg := 16) rfl rfl Iff.rfl (fun _ a_ _ _ c hpc => r_move rfl (c.eo e3 (by kernel_rfl))),
       Ob.gcall rfl rfl rfl rfl (gi := 7) (tg := 16) rfl rfl Iff.rfl (fun _ a_ _ _ c hpc => ⟨_, _, (e_call2 rfl rfl Try.call15 (c.eg 8 rfl rfl hpc) (c.eg 9 rfl rfl hpc)), has_c p m _⟩),
       Ob.gdet rfl rfl rfl rfl (gi := 7) (tg := 16) rfl rfl Iff.rfl (fun _ a_ _ _ c hpc => r_loadN (vs := [(.int .i64 (p.1)), (.int .i64 (p.2))]) rfl Try.isAgg29 Try.sizeOf29 ((c.eo e4 (by kernel_rfl)).trans r0.ptr) rfl (fun _ _ hj => (c.ibox 0 rfl rfl (by kernel_rfl)).cell hj)),
       Ob.gdet rfl rfl rfl rfl (gi := 7) (tg := 16) rfl rfl Iff.rfl (fun _ a_ _ _ c hpc => r_move rfl (c.eo e3 (by kernel_rfl))),
       Ob.gcall rfl rfl rfl rfl (gi := 7) (tg := 16) rfl rfl Iff.rfl (fun _ a_ _ _ c hpc => ⟨_, _, (e_call2 rfl rfl Try.call21 (c.eg 11 rfl rfl hpc) (c.eg 12 rfl rfl hpc)), refHas_c p m _⟩),
       Ob.gdet rfl rfl rfl rfl (gi := 7) (tg := 16) rfl rfl Iff.rfl (fun _ a_ _ _ c hpc => r_beql rfl Try.underlying4 (c.eg 10 rfl rfl hpc) (c.eg 13 rfl rfl hpc)),
       Ob.det rfl rfl rfl (fun _ a_ _ _ c => r_and rfl (c.ev 7 rfl rfl) (fun h => (c.eg 14 rfl rfl h))),
       Ob.det rfl rfl rfl (fun _ a_ _ _ c => r_move rfl (c.ev 15 rfl rfl)),
       Ob.gdet rfl rfl rfl rfl (gi := 16) (tg := 25) rfl rfl Iff.rfl (fun _ a_ _ _ c hpc => r_loadN (vs := [(.int .i64 (p.1)), (.int .i64 (p.2))]) rfl Try.isAgg29 Try.sizeOf29 ((c.eo e4 (by kernel_rfl)).trans r0.ptr) rfl (fun _ _ hj => (c.ibox 0 rfl rfl (by kernel_rfl)).cell hj)),
       Ob.gdet rfl rfl rfl rfl (gi := 16) (tg := 25) rfl rfl Iff.rfl (fun _ a_ _ _ c hpc => r_loadN (vs := [(.int .i64 (q.1)), (.int .i64 (q.2))]) rfl Try.isAgg29 Try.sizeOf29 ((c.eo e5 (by kernel_rfl)).trans r1.ptr) rfl (fun _ _ hj => (c.ibox 1 rfl rfl (by kernel_rfl)).cell hj)),
       Ob.gcall rfl rfl rfl rfl (gi := 16) (tg := 25) rfl rfl Iff.rfl (fun _ a_ _ _ c hpc => ⟨_, _, (e_call2 rfl rfl Try.call22 (c.eg 17 rfl rfl hpc) (c.eg 18 rfl rfl hpc)), within_c p q _⟩),
       Ob.gdet rfl rfl rfl rfl (gi := 16) (tg := 25) rfl rfl Iff.rfl (fun _ a_ _ _ c hpc => r_loadN (vs := [(.int .i64 (p.1)), (.int .i64 (p.2))]) rfl Try.isAgg29 Try.sizeOf29 ((c.eo e4 (by kernel_rfl)).trans r0.ptr) rfl (fun _ _ hj => (c.ibox 0 rfl rfl (by kernel_rfl)).cell hj)),
       Ob.gdet rfl rfl rfl rfl (gi := 16) (tg := 25) rfl rfl Iff.rfl (fun _ a_ _ _ c hpc => r_loadN (vs := [(.int .i64 (q.1)), (.int .i64 (q.2))]) rfl Try.isAgg29 Try.sizeOf29 ((c.eo e5 (by kernel_rfl)).trans r1.ptr) rfl (fun _ _ hj => (c.ibox 1 rfl rfl (by kernel_rfl)).cell hj)),
       Ob.gcall rfl rfl rfl rfl (gi := 16) (tg := 25) rfl rfl Iff.rfl (fun _ a_ _ _ c hpc => ⟨_, _, (e_call2 rfl rfl Try.call23 (c.eg 20 rfl rfl hpc) (c.eg 21 rfl rfl hpc)), refWithin_c p q _⟩),
       Ob.gdet rfl rfl rfl rfl (gi := 16) (tg := 25) rfl rfl Iff.rfl (fun _ a_ _ _ c hpc => r_beql rfl Try.underlying4 (c.eg 19 rfl rfl hpc) (c.eg 22 rfl rfl hpc)),
       Ob.det rfl rfl rfl (fun _ a_ _ _ c => r_and rfl (c.ev 16 rfl rfl) (fun h => (c.eg 23 rfl rfl h))),
       Ob.det rfl rfl rfl (fun _ a_ _ _ c => r_move rfl (c.ev 24 rfl rfl)),
       Ob.gdet rfl rfl rfl rfl (gi := 25) (tg := 34) rfl rfl Iff.rfl (fun _ a_ _ _ c hpc => r_loadN (vs := [(.int .i64 (p.1)), (.int .i64 (p.2))]) rfl Try.isAgg29 Try.sizeOf29 ((c.eo e4 (by kernel_rfl)).trans r0.ptr) rfl (fun _ _ hj => (c.ibox 0 rfl rfl (by kernel_rfl)).cell hj)),
       Ob.gdet rfl rfl rfl rfl (gi := 25) (tg := 34) rfl rfl Iff.rfl (fun _ a_ _ _ c hpc => r_loadN (vs := [(.int .i64 (q.1)), (.int .i64 (q.2))]) rfl Try.isAgg29 Try.sizeOf29 ((c.eo e5 (by kernel_rfl)).trans r1.ptr) rfl (fun _ _ hj => (c.ibox 1 rfl rfl (by kernel_rfl)).cell hj)),
       Ob.gcall rfl rfl rfl rfl (gi := 25) (tg := 34) rfl rfl Iff.rfl (fun _ a_ _ _ c hpc => ⟨_, _, (e_call2 rfl rfl Try.call24 (c.eg 26 rfl rfl hpc) (c.eg 27 rfl rfl hpc)), overlap_c p q _⟩),
       Ob.gdet rfl rfl rfl rfl (gi := 25) (tg := 34) rfl rfl Iff.rfl (fun _ a_ _ _ c hpc => r_loadN (vs := [(.int .i64 (p.1)), (.int .i64 (p.2))]) rfl Try.isAgg29 Try.sizeOf29 ((c.eo e4 (by kernel_rfl)).trans r0.ptr) rfl (fun _ _ hj => (c.ibox 0 rfl rfl (by kernel_rfl)).cell hj)),
       Ob.gdet rfl rfl rfl rfl (gi := 25) (tg := 34) rfl rfl Iff.rfl (fun _ a_ _ _ c hpc => r_loadN (vs := [(.int .i64 (q.1)), (.int .i64 (q.2))]) rfl Try.isAgg29 Try.sizeOf29 ((c.eo e5 (by kernel_rfl)).trans r1.ptr) rfl (fun _ _ hj => (c.ibox 1 rfl rfl (by kernel_rfl)).cell hj)),
       Ob.gcall rfl rfl rfl rfl (gi := 25) (tg := 34) rfl rfl Iff.rfl (fun _ a_ _ _ c hpc => ⟨_, _, (e_call2 rfl rfl Try.call25 (c.eg 29 rfl rfl hpc) (c.eg 30 rfl rfl hpc)), refOverlap_c p q _⟩),
       Ob.gdet rfl rfl rfl rfl (gi := 25) (tg := 34) rfl rfl Iff.rfl (fun _ a_ _ _ c hpc => r_beql rfl Try.underlying4 (c.eg 28 rfl rfl hpc) (c.eg 31 rfl rfl hpc)),
       Ob.det rfl rfl rfl (fun _ a_ _ _ c => r_and rfl (c.ev 25 rfl rfl) (fun h => (c.eg 32 rfl rfl h))),
       Ob.det rfl rfl rfl (fun _ a_ _ _ c => r_move rfl (c.ev 33 rfl rfl)),
       Ob.gdet rfl rfl rfl rfl (gi := 34) (tg := 43) rfl rfl Iff.rfl (fun _ a_ _ _ c hpc => r_loadN (vs := [(.int .i64 (p.1)), (.int .i64 (p.2))]) rfl Try.isAgg29 Try.sizeOf29 ((c.eo e4 (by kernel_rfl)).trans r0.ptr) rfl (fun _ _ hj => (c.ibox 0 rfl rfl (by kernel_rfl)).cell hj)),
       Ob.gdet rfl rfl rfl rfl (gi := 34) (tg := 43) rfl rfl Iff.rfl (fun _ a_ _ _ c hpc => r_loadN (vs := [(.int .i64 (q.1)), (.int .i64 (q.2))]) rfl Try.isAgg29 Try.sizeOf29 ((c.eo e5 (by kernel_rfl)).trans r1.ptr) rfl (fun _ _ hj => (c.ibox 1 rfl rfl (by kernel_rfl)).cell hj)),
       Ob.gcall rfl rfl rfl rfl (gi := 34) (tg := 43) rfl rfl Iff.rfl (fun _ a_ _ _ c hpc => ⟨_, _, (e_call2 rfl rfl Try.call26 (c.eg 35 rfl rfl hpc) (c.eg 36 rfl rfl hpc)), touch_c p q _⟩),
       Ob.gdet rfl rfl rfl rfl (gi := 34) (tg := 43) rfl rfl Iff.rfl (fun _ a_ _ _ c hpc => r_loadN (vs := [(.int .i64 (p.1)), (.int .i64 (p.2))]) rfl Try.isAgg29 Try.sizeOf29 ((c.eo e4 (by kernel_rfl)).trans r0.ptr) rfl (fun _ _ hj => (c.ibox 0 rfl rfl (by kernel_rfl)).cell hj)),
       Ob.gdet rfl rfl rfl rfl (gi := 34) (tg := 43) rfl rfl Iff.rfl (fun _ a_ _ _ c hpc => r_loadN (vs := [(.int .i64 (q.1)), (.int .i64 (q.2))]) rfl Try.isAgg29 Try.sizeOf29 ((c.eo e5 (by kernel_rfl)).trans r1.ptr) rfl (fun _ _ hj => (c.ibox 1 rfl rfl (by kernel_rfl)).cell hj)),
       Ob.gcall rfl rfl rfl rfl (gi := 34) (tg := 43) rfl rfl Iff.rfl (fun _ a_ _ _ c hpc => ⟨_, _, (e_call2 rfl rfl Try.call27 (c.eg 38 rfl rfl hpc) (c.eg 39 rfl rfl hpc)), refTouch_c p q _⟩),
       Ob.gdet rfl rfl rfl rfl (gi := 34) (tg := 43) rfl rfl Iff.rfl (fun _ a_ _ _ c hpc => r_beql rfl Try.underlying4 (c.eg 37 rfl rfl hpc) (c.eg 40 rfl rfl hpc)),
       Ob.det rfl rfl rfl (fun _ a_ _ _ c => r_and rfl (c.ev 34 rfl rfl) (fun h => (c.eg 41 rfl rfl h))),
       Ob.det rfl rfl rfl (fun _ a_ _ _ c => r_move rfl (c.ev 42 rfl rfl)),
       Ob.gcall rfl rfl rfl rfl (gi := 43) (tg := 52) rfl rfl Iff.rfl (fun _ a_ _ _ c hpc => ⟨_, _, (e_call0 rfl rfl Try.call11), awake_c _⟩),
       Ob.det rfl rfl rfl (fun _ a_ _ _ c => r_and rfl (c.ev 43 rfl rfl) (fun h => (c.eg 44 rfl rfl h))),
       Ob.det rfl rfl rfl (fun _ a_ _ _ c => r_assign rfl (c.ev 45 rfl rfl)),
     trivial⟩ ?_
  intro a2 w2 τ2 st2 f2
  replace e0 := f2.old e0 (by kernel_rfl)
  replace e1 := f2.old e1 (by kernel_rfl)
  replace e2 := f2.old e2 (by kernel_rfl)
  replace e3 := f2.old e3 (by kernel_rfl)
  replace e4 := f2.old e4 (by kernel_rfl)
  replace e5 := f2.old e5 (by kernel_rfl)
  have e8 : get a2 8 = (.bool (((((((mayB p n) == (mayB p n)) && ((hasB p m) == (hasB p m))) && ((withinB p q) == (withinB p q))) && ((overlapB p q) == (overlapB p q))) && ((touchB p q) == (touchB p q))) && true)) := f2.v 46 rfl
  replace r0 : boxR 29 [(.int .i64 (p.1)), (.int .i64 (p.2))] (τ2 0) b1x4 w2 := f2.ibox 0 rfl rfl
  replace r1 : boxR 29 [(.int .i64 (q.1)), (.int .i64 (q.2))] (τ2 1) b1x5 w2 := f2.ibox 1 rfl rfl
  clear f2
  show Code.wp _ _ _ a2 w2
  refine wp_ret ?_
  repeat (first | with_reducible refine then_ret ?_ | with_reducible refine block_ret ?_)
  refine ret1 (fn := Try.f9) rfl st2.defers e8 ?_
  exact ⟨congrArg _ (congrArg _ (show (((((((mayB p n) == (mayB p n)) && ((hasB p m) == (hasB p m))) && ((withinB p q) == (withinB p q))) && ((overlapB p q) == (overlapB p q))) && ((touchB p q) == (touchB p q))) && true) = true from by simp)), st2.ext0⟩

set_option maxRecDepth 100000 in
theorem spanAgree_c (p q : Int × Int) (n : Int) (w : World) : Calls Try.prog 10 #[spanV p, spanV q, .int .i64 n] w (fun e w' => e = .returned (.bool (true)) ∧ Ext none' w w') := by
  refine enter (n := 101) Try.func10 rfl rfl (Nat.le_of_ble_eq_true rfl) ?_
  intro a0 τ0 ha st0
  have e0 : get a0 0 = (.agg #[(.int .i64 (p.1)), (.int .i64 (p.2))]) := ha 0 _ rfl
  have e1 : get a0 1 = (.agg #[(.int .i64 (q.1)), (.int .i64 (q.2))]) := ha 1 _ rfl
  have e2 : get a0 2 = (.int .i64 (n)) := ha 2 _ rfl
  clear ha
  refine wp_seq ?_
  refine region_St (bf := [0, 0, 0]) (sp := [
      (box 29 (Nw w) 0 3 [(.int .i64 (p.1)), (.int .i64 (p.2))]),
        (box 29 (Nw w) 1 4 [(.int .i64 (q.1)), (.int .i64 (q.2))]),
        (det (Nw w) 6 (.bool (false)))])
    [] mixed st0 (by kernel_rfl) trivial
    ⟨Ob.box (v := (.agg #[(.int .i64 (p.1)), (.int .i64 (p.2))])) rfl rfl rfl rfl rfl (fun _ _ _ _ c => (c.eo e0 (by kernel_rfl))),
       Ob.box (v := (.agg #[(.int .i64 (q.1)), (.int .i64 (q.2))])) rfl rfl rfl rfl rfl (fun _ _ _ _ c => (c.eo e1 (by kernel_rfl))),
       Ob.det rfl rfl rfl (fun _ a_ _ _ c => r_assign rfl rfl),
     trivial⟩ ?_
  intro a1 w1 τ1 st1 f1
  obtain ⟨b1x3, e3⟩ : ∃ b, get a1 3 = b := ⟨_, rfl⟩
  obtain ⟨b1x4, e4⟩ : ∃ b, get a1 4 = b := ⟨_, rfl⟩
  replace e0 := f1.old e0 (by kernel_rfl)
  replace e1 := f1.old e1 (by kernel_rfl)
  replace e2 := f1.old e2 (by kernel_rfl)
  have e6 : get a1 6 = (.bool (false)) := f1.v 2 rfl
  have r0 : boxR 29 [(.int .i64 (p.1)), (.int .i64 (p.2))] (τ1 0) b1x3 w1 := f1.rbox 0 rfl rfl e3
  have r1 : boxR 29 [(.int .i64 (q.1)), (.int .i64 (q.2))] (τ1 1) b1x4 w1 := f1.rbox 1 rfl rfl e4
  clear f1
  show Code.wp _ _ _ a1 w1
  refine wp_seq ?_
  refine wp_seq ?_
  refine region_St (bf := [0, 1, 0, 4, 15, 31, 63, 127, 63, 319, 1023, 2047]) (sp := [
      (det (Nw w) 8 (.pointer (some ((ptrOf b1x3).add 0)))),
        (det (Nw w) 9 (.int .i64 (p.1))),
        (det (Nw w) 10 (.pointer (some ((ptrOf b1x3).add 1)))),
        (det (Nw w) 11 (.int .i64 (p.2))),
        (det (Nw w) 12 (.bool (decide (p.2 < p.1)))),
        (det (Nw w) 13 (.bool (decide (p.2 < p.1)))),
        (gdet (Nw w) 14 ((decide (p.2 < p.1)) = false) (.pointer (some ((ptrOf b1x4).add 0)))),
        (gdet (Nw w) 15 ((decide (p.2 < p.1)) = false) (.int .i64 (q.1))),
        (gdet (Nw w) 16 ((decide (p.2 < p.1)) = false) (.pointer (some ((ptrOf b1x4).add 1)))),
        (gdet (Nw w) 17 ((decide (p.2 < p.1)) = false) (.int .i64 (q.2))),
        (gdet (Nw w) 18 ((decide (p.2 < p.1)) = false) (.bool (decide (q.2 < q.1)))),
        (det (Nw w) 19 (.bool ((decide (p.2 < p.1)) || (decide (q.2 < q.1)))))])
    [(ibox 29 (Nw w) b1x3 [(.int .i64 (p.1)), (.int .i64 (p.2))]), (ibox 29 (Nw w) b1x4 [(.int .i64 (q.1)), (.int .i64 (q.2))])] mixed st1 (by kernel_rfl) ⟨r0, r1, trivial⟩
    ⟨Ob.det rfl rfl rfl (fun _ a_ _ _ c => r_fieldAddr rfl Try.underlying29 rfl rfl Try.sizeOf3 ((c.eo e3 (by kernel_rfl)).trans r0.ptr)),
       Ob.det rfl rfl rfl (fun _ a_ _ _ c => r_load1 rfl Try.isAgg3 (c.ev 0 rfl rfl) ((c.ibox 0 rfl rfl (by kernel_rfl)).cell (j := 0) rfl)),
       Ob.det rfl rfl rfl (fun _ a_ _ _ c => r_fieldAddr rfl Try.underlying29 rfl rfl Try.sizeOf3 ((c.eo e3 (by kernel_rfl)).trans r0.ptr)),
       Ob.det rfl rfl rfl (fun _ a_ _ _ c => r_load1 rfl Try.isAgg3 (c.ev 2 rfl rfl) ((c.ibox 0 rfl rfl (by kernel_rfl)).cell (j := 1) rfl)),
       Ob.det rfl rfl rfl (fun _ a_ _ _ c => r_gtr rfl (c.ev 1 rfl rfl) (c.ev 3 rfl rfl)),
       Ob.det rfl rfl rfl (fun _ a_ _ _ c => r_move rfl (c.ev 4 rfl rfl)),
       Ob.gdet rfl rfl rfl rfl (gi := 5) (tg := 13) rfl rfl Iff.rfl (fun _ a_ _ _ c hpc => r_fieldAddr rfl Try.underlying29 rfl rfl Try.sizeOf3 ((c.eo e4 (by kernel_rfl)).trans r1.ptr)),
       Ob.gdet rfl rfl rfl rfl (gi := 5) (tg := 13) rfl rfl Iff.rfl (fun _ a_ _ _ c hpc => r_load1 rfl Try.isAgg3 (c.eg 6 rfl rfl hpc) ((c.ibox 1 rfl rfl (by kernel_rfl)).cell (j := 0) rfl)),
       Ob.gdet rfl rfl rfl rfl (gi := 5) (tg := 13) rfl rfl Iff.rfl (fun _ a_ _ _ c hpc => r_fieldAddr rfl Try.underlying29 rfl rfl Try.sizeOf3 ((c.eo e4 (by kernel_rfl)).trans r1.ptr)),
       Ob.gdet rfl rfl rfl rfl (gi := 5) (tg := 13) rfl rfl Iff.rfl (fun _ a_ _ _ c hpc => r_load1 rfl Try.isAgg3 (c.eg 8 rfl rfl hpc) ((c.ibox 1 rfl rfl (by kernel_rfl)).cell (j := 1) rfl)),
       Ob.gdet rfl rfl rfl rfl (gi := 5) (tg := 13) rfl rfl Iff.rfl (fun _ a_ _ _ c hpc => r_gtr rfl (c.eg 7 rfl rfl hpc) (c.eg 9 rfl rfl hpc)),
       Ob.det rfl rfl rfl (fun _ a_ _ _ c => r_or rfl (c.ev 5 rfl rfl) (fun h => (c.eg 10 rfl rfl h))),
     trivial⟩ ?_
  intro a2 w2 τ2 st2 f2
  replace e0 := f2.old e0 (by kernel_rfl)
  replace e1 := f2.old e1 (by kernel_rfl)
  replace e2 := f2.old e2 (by kernel_rfl)
  replace e3 := f2.old e3 (by kernel_rfl)
  replace e4 := f2.old e4 (by kernel_rfl)
  replace e6 := f2.old e6 (by kernel_rfl)
  have e19 : get a2 19 = (.bool ((decide (p.2 < p.1)) || (decide (q.2 < q.1)))) := f2.v 11 rfl
  replace r0 : boxR 29 [(.int .i64 (p.1)), (.int .i64 (p.2))] (τ2 0) b1x3 w2 := f2.ibox 0 rfl rfl
  replace r1 : boxR 29 [(.int .i64 (q.1)), (.int .i64 (q.2))] (τ2 1) b1x4 w2 := f2.ibox 1 rfl rfl
  clear f2
  show Code.wp _ _ _ a2 w2
  refine wp_cond_split (t := (decide (p.2 < p.1)) || (decide (q.2 < q.1))) e19 (fun hc1 => ?_) (fun hc1 => ?_)
  · have hd1 := hc1; try simp only [Bool.and_eq_true, Bool.or_eq_true, decide_eq_true_eq, decide_eq_false_iff_not, Bool.not_eq_true', Bool.and_eq_false_iff, Bool.or_eq_false_iff, Bool.not_eq_false', Int.not_lt, Int.not_le, beq_iff_eq, spanB] at hd1
    refine wp_seq ?_
    refine region_St (bf := [0, 1]) (sp := [
        (det (Nw w) 20 (.bool (true))),
            (det (Nw w) 6 (.bool (true)))])
      [(ibox 29 (Nw w) b1x3 [(.int .i64 (p.1)), (.int .i64 (p.2))]), (ibox 29 (Nw w) b1x4 [(.int .i64 (q.1)), (.int .i64 (q.2))])] mixed st2 (by kernel_rfl) ⟨r0, r1, trivial⟩
      ⟨Ob.call rfl rfl rfl (fun _ a_ _ _ c => ⟨_, _, (e_call0 rfl rfl Try.call11), awake_c _⟩),
           Ob.det rfl rfl rfl (fun _ a_ _ _ c => r_assign rfl (c.ev 0 rfl rfl)),
       trivial⟩ ?_
    intro a3 w3 τ3 st3 f3
    replace e0 := f3.old e0 (by kernel_rfl)
    replace e1 := f3.old e1 (by kernel_rfl)
    replace e2 := f3.old e2 (by kernel_rfl)
    replace e3 := f3.old e3 (by kernel_rfl)
    replace e4 := f3.old e4 (by kernel_rfl)
    have e6 : get a3 6 = (.bool (true)) := f3.v 1 rfl
    replace e19 := f3.old e19 (by kernel_rfl)
    replace r0 : boxR 29 [(.int .i64 (p.1)), (.int .i64 (p.2))] (τ3 0) b1x3 w3 := f3.ibox 0 rfl rfl
    replace r1 : boxR 29 [(.int .i64 (q.1)), (.int .i64 (q.2))] (τ3 1) b1x4 w3 := f3.ibox 1 rfl rfl
    clear f3
    show Code.wp _ _ _ a3 w3
    refine wp_ret ?_
    repeat (first | with_reducible refine then_ret ?_ | with_reducible refine block_ret ?_)
    refine ret1 (fn := Try.f10) rfl st3.defers e6 ?_
    exact ⟨rfl, st3.ext0⟩
  · have hd1 := hc1; try simp only [Bool.and_eq_true, Bool.or_eq_true, decide_eq_true_eq, decide_eq_false_iff_not, Bool.not_eq_true', Bool.and_eq_false_iff, Bool.or_eq_false_iff, Bool.not_eq_false', Int.not_lt, Int.not_le, beq_iff_eq, spanB] at hd1
    refine wp_skip ?_
    show Code.wp _ _ _ a2 w2
    refine wp_seq ?_
    refine region_St (bf := [0, 0, 2, 7, 15, 31, 31, 95, 255, 511, 1023]) (sp := [
        (det (Nw w) 21 (.agg #[(.int .i64 (p.1)), (.int .i64 (p.2))])),
            (det (Nw w) 22 (.pointer (some ((ptrOf b1x4).add 0)))),
            (det (Nw w) 23 (.int .i64 (q.1))),
            (det (Nw w) 24 (.bool (hasB p q.1))),
            (det (Nw w) 25 (.bool (hasB p q.1))),
            (gdet (Nw w) 26 ((hasB p q.1) = false) (.agg #[(.int .i64 (q.1)), (.int .i64 (q.2))])),
            (gdet (Nw w) 27 ((hasB p q.1) = false) (.pointer (some ((ptrOf b1x3).add 0)))),
            (gdet (Nw w) 28 ((hasB p q.1) = false) (.int .i64 (p.1))),
            (gdet (Nw w) 29 ((hasB p q.1) = false) (.bool (hasB q p.1))),
            (det (Nw w) 30 (.bool ((hasB p q.1) || (hasB q p.1)))),
            (det (Nw w) 7 (.bool ((hasB p q.1) || (hasB q p.1))))])
      [(ibox 29 (Nw w) b1x3 [(.int .i64 (p.1)), (.int .i64 (p.2))]), (ibox 29 (Nw w) b1x4 [(.int .i64 (q.1)), (.int .i64 (q.2))])] mixed st2 (by kernel_rfl) ⟨r0, r1, trivial⟩
      ⟨Ob.det rfl rfl rfl (fun _ a_ _ _ c => r_loadN (vs := [(.int .i64 (p.1)), (.int .i64 (p.2))]) rfl Try.isAgg29 Try.sizeOf29 ((c.eo e3 (by kernel_rfl)).trans r0.ptr) rfl (fun _ _ hj => (c.ibox 0 rfl rfl (by kernel_rfl)).cell hj)),
           Ob.det rfl rfl rfl (fun _ a_ _ _ c => r_fieldAddr rfl Try.underlying29 rfl rfl Try.sizeOf3 ((c.eo e4 (by kernel_rfl)).trans r1.ptr)),
           Ob.det rfl rfl rfl (fun _ a_ _ _ c => r_load1 rfl Try.isAgg3 (c.ev 1 rfl rfl) ((c.ibox 1 rfl rfl (by kernel_rfl)).cell (j := 0) rfl)),
           Ob.call rfl rfl rfl (fun _ a_ _ _ c => ⟨_, _, (e_call2 rfl rfl Try.call15 (c.ev 0 rfl rfl) (c.ev 2 rfl rfl)), has_c p q.1 _⟩),
           Ob.det rfl rfl rfl (fun _ a_ _ _ c => r_move rfl (c.ev 3 rfl rfl)),
           Ob.gdet rfl rfl rfl rfl (gi := 4) (tg := 25) rfl rfl Iff.rfl (fun _ a_ _ _ c hpc => r_loadN (vs := [(.int .i64 (q.1)), (.int .i64 (q.2))]) rfl Try.isAgg29 Try.sizeOf29 ((c.eo e4 (by kernel_rfl)).trans r1.ptr) rfl (fun _ _ hj => (c.ibox 1 rfl rfl (by kernel_rfl)).cell hj)),
           Ob.gdet rfl rfl rfl rfl (gi := 4) (tg := 25) rfl rfl Iff.rfl (fun _ a_ _ _ c hpc => r_fieldAddr rfl Try.underlying29 rfl rfl Try.sizeOf3 ((c.eo e3 (by kernel_rfl)).trans r0.ptr)),
           Ob.gdet rfl rfl rfl rfl (gi := 4) (tg := 25) rfl rfl Iff.rfl (fun _ a_ _ _ c hpc => r_load1 rfl Try.isAgg3 (c.eg 6 rfl rfl hpc) ((c.ibox 0 rfl rfl (by kernel_rfl)).cell (j := 0) rfl)),
           Ob.gcall rfl rfl rfl rfl (gi := 4) (tg := 25) rfl rfl Iff.rfl (fun _ a_ _ _ c hpc => ⟨_, _, (e_call2 rfl rfl Try.call15 (c.eg 5 rfl rfl hpc) (c.eg 7 rfl rfl hpc)), has_c q p.1 _⟩),
           Ob.det rfl rfl rfl (fun _ a_ _ _ c => r_or rfl (c.ev 4 rfl rfl) (fun h => (c.eg 8 rfl rfl h))),
           Ob.det rfl rfl rfl (fun _ a_ _ _ c => r_assign rfl (c.ev 9 rfl rfl)),
       trivial⟩ ?_
    intro a4 w4 τ4 st4 f4
    replace e0 := f4.old e0 (by kernel_rfl)
    replace e1 := f4.old e1 (by kernel_rfl)
    replace e2 := f4.old e2 (by kernel_rfl)
    replace e3 := f4.old e3 (by kernel_rfl)
    replace e4 := f4.old e4 (by kernel_rfl)
    replace e6 := f4.old e6 (by kernel_rfl)
    have e7 : get a4 7 = (.bool ((hasB p q.1) || (hasB q p.1))) := f4.v 10 rfl
    replace e19 := f4.old e19 (by kernel_rfl)
    replace r0 : boxR 29 [(.int .i64 (p.1)), (.int .i64 (p.2))] (τ4 0) b1x3 w4 := f4.ibox 0 rfl rfl
    replace r1 : boxR 29 [(.int .i64 (q.1)), (.int .i64 (q.2))] (τ4 1) b1x4 w4 := f4.ibox 1 rfl rfl
    clear f4
    show Code.wp _ _ _ a4 w4
    refine wp_seq ?_
    refine wp_seq ?_
    refine region_St (bf := [0, 0, 3, 0, 15, 31, 63, 63, 255, 511, 1023, 2047, 4095, 8191, 16383, 32767, 32767, 131071, 32767, 32767, 1048575, 2097151, 4194303, 8388607, 16777215, 16777215, 67108863, 16777215, 16777215, 536870911, 1073741823, 2147483647]) (sp := [
        (det (Nw w) 31 (.agg #[(.int .i64 (p.1)), (.int .i64 (p.2))])),
            (det (Nw w) 32 (.agg #[(.int .i64 (q.1)), (.int .i64 (q.2))])),
            (det (Nw w) 33 (.bool (touchB p q))),
            (det (Nw w) 34 (.bool ((hasB p q.1) || (hasB q p.1)))),
            (det (Nw w) 35 (.bool (!((touchB p q) == ((hasB p q.1) || (hasB q p.1)))))),
            (det (Nw w) 36 (.bool (!((touchB p q) == ((hasB p q.1) || (hasB q p.1)))))),
            (gdet (Nw w) 37 ((!((touchB p q) == ((hasB p q.1) || (hasB q p.1)))) = false) (.agg #[(.int .i64 (p.1)), (.int .i64 (p.2))])),
            (gdet (Nw w) 38 ((!((touchB p q) == ((hasB p q.1) || (hasB q p.1)))) = false) (.agg #[(.int .i64 (q.1)), (.int .i64 (q.2))])),
            (gdet (Nw w) 39 ((!((touchB p q) == ((hasB p q.1) || (hasB q p.1)))) = false) (.bool (overlapB p q))),
            (gdet (Nw w) 40 ((!((touchB p q) == ((hasB p q.1) || (hasB q p.1)))) = false) (.bool (overlapB p q))),
            (gdet (Nw w) 41 (((!((touchB p q) == ((hasB p q.1) || (hasB q p.1)))) = false) ∧ (overlapB p q) = true) (.bool ((hasB p q.1) || (hasB q p.1)))),
            (gdet (Nw w) 42 (((!((touchB p q) == ((hasB p q.1) || (hasB q p.1)))) = false) ∧ (overlapB p q) = true) (.bool (!((hasB p q.1) || (hasB q p.1))))),
            (gdet (Nw w) 43 ((!((touchB p q) == ((hasB p q.1) || (hasB q p.1)))) = false) (.bool ((overlapB p q) && (!((hasB p q.1) || (hasB q p.1)))))),
            (det (Nw w) 44 (.bool ((!((touchB p q) == ((hasB p q.1) || (hasB q p.1)))) || ((overlapB p q) && (!((hasB p q.1) || (hasB q p.1))))))),
            (det (Nw w) 45 (.bool ((!((touchB p q) == ((hasB p q.1) || (hasB q p.1)))) || ((overlapB p q) && (!((hasB p q.1) || (hasB q p.1))))))),
            (gdet (Nw w) 46 (((!((touchB p q) == ((hasB p q.1) || (hasB q p.1)))) || ((overlapB p q) && (!((hasB p q.1) || (hasB q p.1))))) = false) (.agg #[(.int .i64 (p.1)), (.int .i64 (p.2))])),
            (gdet (Nw w) 47 (((!((touchB p q) == ((hasB p q.1) || (hasB q p.1)))) || ((overlapB p q) && (!((hasB p q.1) || (hasB q p.1))))) = false) (.agg #[(.int .i64 (q.1)), (.int .i64 (q.2))])),
            (gdet (Nw w) 48 (((!((touchB p q) == ((hasB p q.1) || (hasB q p.1)))) || ((overlapB p q) && (!((hasB p q.1) || (hasB q p.1))))) = false) (.bool (touchB p q))),
            (gdet (Nw w) 49 (((!((touchB p q) == ((hasB p q.1) || (hasB q p.1)))) || ((overlapB p q) && (!((hasB p q.1) || (hasB q p.1))))) = false) (.agg #[(.int .i64 (q.1)), (.int .i64 (q.2))])),
            (gdet (Nw w) 50 (((!((touchB p q) == ((hasB p q.1) || (hasB q p.1)))) || ((overlapB p q) && (!((hasB p q.1) || (hasB q p.1))))) = false) (.agg #[(.int .i64 (p.1)), (.int .i64 (p.2))])),
            (gdet (Nw w) 51 (((!((touchB p q) == ((hasB p q.1) || (hasB q p.1)))) || ((overlapB p q) && (!((hasB p q.1) || (hasB q p.1))))) = false) (.bool (touchB q p))),
            (gdet (Nw w) 52 (((!((touchB p q) == ((hasB p q.1) || (hasB q p.1)))) || ((overlapB p q) && (!((hasB p q.1) || (hasB q p.1))))) = false) (.bool (!((touchB p q) == (touchB q p))))),
            (det (Nw w) 53 (.bool (((!((touchB p q) == ((hasB p q.1) || (hasB q p.1)))) || ((overlapB p q) && (!((hasB p q.1) || (hasB q p.1))))) || (!((touchB p q) == (touchB q p)))))),
            (det (Nw w) 54 (.bool (((!((touchB p q) == ((hasB p q.1) || (hasB q p.1)))) || ((overlapB p q) && (!((hasB p q.1) || (hasB q p.1))))) || (!((touchB p q) == (touchB q p)))))),
            (gdet (Nw w) 55 ((((!((touchB p q) == ((hasB p q.1) || (hasB q p.1)))) || ((overlapB p q) && (!((hasB p q.1) || (hasB q p.1))))) || (!((touchB p q) == (touchB q p)))) = false) (.agg #[(.int .i64 (p.1)), (.int .i64 (p.2))])),
            (gdet (Nw w) 56 ((((!((touchB p q) == ((hasB p q.1) || (hasB q p.1)))) || ((overlapB p q) && (!((hasB p q.1) || (hasB q p.1))))) || (!((touchB p q) == (touchB q p)))) = false) (.agg #[(.int .i64 (q.1)), (.int .i64 (q.2))])),
            (gdet (Nw w) 57 ((((!((touchB p q) == ((hasB p q.1) || (hasB q p.1)))) || ((overlapB p q) && (!((hasB p q.1) || (hasB q p.1))))) || (!((touchB p q) == (touchB q p)))) = false) (.bool (overlapB p q))),
            (gdet (Nw w) 58 ((((!((touchB p q) == ((hasB p q.1) || (hasB q p.1)))) || ((overlapB p q) && (!((hasB p q.1) || (hasB q p.1))))) || (!((touchB p q) == (touchB q p)))) = false) (.agg #[(.int .i64 (q.1)), (.int .i64 (q.2))])),
            (gdet (Nw w) 59 ((((!((touchB p q) == ((hasB p q.1) || (hasB q p.1)))) || ((overlapB p q) && (!((hasB p q.1) || (hasB q p.1))))) || (!((touchB p q) == (touchB q p)))) = false) (.agg #[(.int .i64 (p.1)), (.int .i64 (p.2))])),
            (gdet (Nw w) 60 ((((!((touchB p q) == ((hasB p q.1) || (hasB q p.1)))) || ((overlapB p q) && (!((hasB p q.1) || (hasB q p.1))))) || (!((touchB p q) == (touchB q p)))) = false) (.bool (overlapB q p))),
            (gdet (Nw w) 61 ((((!((touchB p q) == ((hasB p q.1) || (hasB q p.1)))) || ((overlapB p q) && (!((hasB p q.1) || (hasB q p.1))))) || (!((touchB p q) == (touchB q p)))) = false) (.bool (!((overlapB p q) == (overlapB q p))))),
            (det (Nw w) 62 (.bool ((((!((touchB p q) == ((hasB p q.1) || (hasB q p.1)))) || ((overlapB p q) && (!((hasB p q.1) || (hasB q p.1))))) || (!((touchB p q) == (touchB q p)))) || (!((overlapB p q) == (overlapB q p))))))])
      [(ibox 29 (Nw w) b1x3 [(.int .i64 (p.1)), (.int .i64 (p.2))]), (ibox 29 (Nw w) b1x4 [(.int .i64 (q.1)), (.int .i64 (q.2))])] mixed st4 (by kernel_rfl) ⟨r0, r1, trivial⟩
      ⟨Ob.det rfl rfl rfl (fun _ a_ _ _ c => r_loadN (vs := [(.int .i64 (p.1)), (.int .i64 (p.2))]) rfl Try.isAgg29 Try.sizeOf29 ((c.eo e3 (by kernel_rfl)).trans r0.ptr) rfl (fun _ _ hj => (c.ibox 0 rfl rfl (by kernel_rfl)).cell hj)),
           Ob.det rfl rfl rfl (fun _ a_ _ _ c => r_loadN (vs := [(.int .i64 (q.1)), (.int .i64 (q.2))]) rfl Try.isAgg29 Try.sizeOf29 ((c.eo e4 (by kernel_rfl)).trans r1.ptr) rfl (fun _ _ hj => (c.ibox 1 rfl rfl (by kernel_rfl)).cell hj)),
           Ob.call rfl rfl rfl (fun _ a_ _ _ c => ⟨_, _, (e_call2 rfl rfl Try.call26 (c.ev 0 rfl rfl) (c.ev 1 rfl rfl)), touch_c p q _⟩),
           Ob.det rfl rfl rfl (fun _ a_ _ _ c => r_move rfl (c.eo e7 (by kernel_rfl))),
           Ob.det rfl rfl rfl (fun _ a_ _ _ c => r_bneq rfl Try.underlying4 (c.ev 2 rfl rfl) (c.ev 3 rfl rfl)),
           Ob.det rfl rfl rfl (fun _ a_ _ _ c => r_move rfl (c.ev 4 rfl rfl)),
           Ob.gdet rfl rfl rfl rfl (gi := 5) (tg := 36) rfl rfl Iff.rfl (fun _ a_ _ _ c hpc => r_loadN (vs := [(.int .i64 (p.1)), (.int .i64 (p.2))]) rfl Try.isAgg29 Try.sizeOf29 ((c.eo e3 (by kernel_rfl)).trans r0.ptr) rfl (fun _ _ hj => (c.ibox 0 rfl rfl (by kernel_rfl)).cell hj)),
           Ob.gdet rfl rfl rfl rfl (gi := 5) (tg := 36) rfl rfl Iff.rfl (fun _ a_ _ _ c hpc => r_loadN (vs := [(.int .i64 (q.1)), (.int .i64 (q.2))]) rfl Try.isAgg29 Try.sizeOf29 ((c.eo e4 (by kernel_rfl)).trans r1.ptr) rfl (fun _ _ hj => (c.ibox 1 rfl rfl (by kernel_rfl)).cell hj)),
           Ob.gcall rfl rfl rfl rfl (gi := 5) (tg := 36) rfl rfl Iff.rfl (fun _ a_ _ _ c hpc => ⟨_, _, (e_call2 rfl rfl Try.call24 (c.eg 6 rfl rfl hpc) (c.eg 7 rfl rfl hpc)), overlap_c p q _⟩),
           Ob.gdet rfl rfl rfl rfl (gi := 5) (tg := 36) rfl rfl Iff.rfl (fun _ a_ _ _ c hpc => r_move rfl (c.eg 8 rfl rfl hpc)),
           Ob.ggdet rfl rfl rfl rfl (gi := 9) (tg := 40) rfl rfl Iff.rfl (fun _ a_ _ _ c hpc => r_move rfl (c.eo e7 (by kernel_rfl))),
           Ob.ggdet rfl rfl rfl rfl (gi := 9) (tg := 40) rfl rfl Iff.rfl (fun _ a_ _ _ c hpc => r_not rfl (c.eg 10 rfl rfl hpc)),
           Ob.gdet rfl rfl rfl rfl (gi := 5) (tg := 36) rfl rfl Iff.rfl (fun _ a_ _ _ c hpc => r_and rfl (c.eg 9 rfl rfl hpc) (fun h => (c.eg 11 rfl rfl ⟨hpc, h⟩))),
           Ob.det rfl rfl rfl (fun _ a_ _ _ c => r_or rfl (c.ev 5 rfl rfl) (fun h => (c.eg 12 rfl rfl h))),
           Ob.det rfl rfl rfl (fun _ a_ _ _ c => r_move rfl (c.ev 13 rfl rfl)),
           Ob.gdet rfl rfl rfl rfl (gi := 14) (tg := 45) rfl rfl Iff.rfl (fun _ a_ _ _ c hpc => r_loadN (vs := [(.int .i64 (p.1)), (.int .i64 (p.2))]) rfl Try.isAgg29 Try.sizeOf29 ((c.eo e3 (by kernel_rfl)).trans r0.ptr) rfl (fun _ _ hj => (c.ibox 0 rfl rfl (by kernel_rfl)).cell hj)),
           Ob.gdet rfl rfl rfl rfl (gi := 14) (tg := 45) rfl rfl Iff.rfl (fun _ a_ _ _ c hpc => r_loadN (vs := [(.int .i64 (q.1)), (.int .i64 (q.2))]) rfl Try.isAgg29 Try.sizeOf29 ((c.eo e4 (by kernel_rfl)).trans r1.ptr) rfl (fun _ _ hj => (c.ibox 1 rfl rfl (by kernel_rfl)).cell hj)),
           Ob.gcall rfl rfl rfl rfl (gi := 14) (tg := 45) rfl rfl Iff.rfl (fun _ a_ _ _ c hpc => ⟨_, _, (e_call2 rfl rfl Try.call26 (c.eg 15 rfl rfl hpc) (c.eg 16 rfl rfl hpc)), touch_c p q _⟩),
           Ob.gdet rfl rfl rfl rfl (gi := 14) (tg := 45) rfl rfl Iff.rfl (fun _ a_ _ _ c hpc => r_loadN (vs := [(.int .i64 (q.1)), (.int .i64 (q.2))]) rfl Try.isAgg29 Try.sizeOf29 ((c.eo e4 (by kernel_rfl)).trans r1.ptr) rfl (fun _ _ hj => (c.ibox 1 rfl rfl (by kernel_rfl)).cell hj)),
           Ob.gdet rfl rfl rfl rfl (gi := 14) (tg := 45) rfl rfl Iff.rfl (fun _ a_ _ _ c hpc => r_loadN (vs := [(.int .i64 (p.1)), (.int .i64 (p.2))]) rfl Try.isAgg29 Try.sizeOf29 ((c.eo e3 (by kernel_rfl)).trans r0.ptr) rfl (fun _ _ hj => (c.ibox 0 rfl rfl (by kernel_rfl)).cell hj)),
           Ob.gcall rfl rfl rfl rfl (gi := 14) (tg := 45) rfl rfl Iff.rfl (fun _ a_ _ _ c hpc => ⟨_, _, (e_call2 rfl rfl Try.call26 (c.eg 18 rfl rfl hpc) (c.eg 19 rfl rfl hpc)), touch_c q p _⟩),
           Ob.gdet rfl rfl rfl rfl (gi := 14) (tg := 45) rfl rfl Iff.rfl (fun _ a_ _ _ c hpc => r_bneq rfl Try.underlying4 (c.eg 17 rfl rfl hpc) (c.eg 20 rfl rfl hpc)),
           Ob.det rfl rfl rfl (fun _ a_ _ _ c => r_or rfl (c.ev 14 rfl rfl) (fun h => (c.eg 21 rfl rfl h))),
           Ob.det rfl rfl rfl (fun _ a_ _ _ c => r_move rfl (c.ev 22 rfl rfl)),
           Ob.gdet rfl rfl rfl rfl (gi := 23) (tg := 54) rfl rfl Iff.rfl (fun _ a_ _ _ c hpc => r_loadN (vs := [(.int .i64 (p.1)), (.int .i64 (p.2))]) rfl Try.isAgg29 Try.sizeOf29 ((c.eo e3 (by kernel_rfl)).trans r0.ptr) rfl (fun _ _ hj => (c.ibox 0 rfl rfl (by kernel_rfl)).cell hj)),
           Ob.gdet rfl rfl rfl rfl (gi := 23) (tg := 54) rfl rfl Iff.rfl (fun _ a_ _ _ c hpc => r_loadN (vs := [(.int .i64 (q.1)), (.int .i64 (q.2))]) rfl Try.isAgg29 Try.sizeOf29 ((c.eo e4 (by kernel_rfl)).trans r1.ptr) rfl (fun _ _ hj => (c.ibox 1 rfl rfl (by kernel_rfl)).cell hj)),
           Ob.gcall rfl rfl rfl rfl (gi := 23) (tg := 54) rfl rfl Iff.rfl (fun _ a_ _ _ c hpc => ⟨_, _, (e_call2 rfl rfl Try.call24 (c.eg 24 rfl rfl hpc) (c.eg 25 rfl rfl hpc)), overlap_c p q _⟩),
           Ob.gdet rfl rfl rfl rfl (gi := 23) (tg := 54) rfl rfl Iff.rfl (fun _ a_ _ _ c hpc => r_loadN (vs := [(.int .i64 (q.1)), (.int .i64 (q.2))]) rfl Try.isAgg29 Try.sizeOf29 ((c.eo e4 (by kernel_rfl)).trans r1.ptr) rfl (fun _ _ hj => (c.ibox 1 rfl rfl (by kernel_rfl)).cell hj)),
           Ob.gdet rfl rfl rfl rfl (gi := 23) (tg := 54) rfl rfl Iff.rfl (fun _ a_ _ _ c hpc => r_loadN (vs := [(.int .i64 (p.1)), (.int .i64 (p.2))]) rfl Try.isAgg29 Try.sizeOf29 ((c.eo e3 (by kernel_rfl)).trans r0.ptr) rfl (fun _ _ hj => (c.ibox 0 rfl rfl (by kernel_rfl)).cell hj)),
           Ob.gcall rfl rfl rfl rfl (gi := 23) (tg := 54) rfl rfl Iff.rfl (fun _ a_ _ _ c hpc => ⟨_, _, (e_call2 rfl rfl Try.call24 (c.eg 27 rfl rfl hpc) (c.eg 28 rfl rfl hpc)), overlap_c q p _⟩),
           Ob.gdet rfl rfl rfl rfl (gi := 23) (tg := 54) rfl rfl Iff.rfl (fun _ a_ _ _ c hpc => r_bneq rfl Try.underlying4 (c.eg 26 rfl rfl hpc) (c.eg 29 rfl rfl hpc)),
           Ob.det rfl rfl rfl (fun _ a_ _ _ c => r_or rfl (c.ev 23 rfl rfl) (fun h => (c.eg 30 rfl rfl h))),
       trivial⟩ ?_
    intro a5 w5 τ5 st5 f5
    replace e0 := f5.old e0 (by kernel_rfl)
    replace e1 := f5.old e1 (by kernel_rfl)
    replace e2 := f5.old e2 (by kernel_rfl)
    replace e3 := f5.old e3 (by kernel_rfl)
    replace e4 := f5.old e4 (by kernel_rfl)
    replace e6 := f5.old e6 (by kernel_rfl)
    replace e7 := f5.old e7 (by kernel_rfl)
    replace e19 := f5.old e19 (by kernel_rfl)
    have e62 : get a5 62 = (.bool ((((!((touchB p q) == ((hasB p q.1) || (hasB q p.1)))) || ((overlapB p q) && (!((hasB p q.1) || (hasB q p.1))))) || (!((touchB p q) == (touchB q p)))) || (!((overlapB p q) == (overlapB q p))))) := f5.v 31 rfl
    replace r0 : boxR 29 [(.int .i64 (p.1)), (.int .i64 (p.2))] (τ5 0) b1x3 w5 := f5.ibox 0 rfl rfl
    replace r1 : boxR 29 [(.int .i64 (q.1)), (.int .i64 (q.2))] (τ5 1) b1x4 w5 := f5.ibox 1 rfl rfl
    clear f5
    show Code.wp _ _ _ a5 w5
    refine wp_cond_split (t := (((!((touchB p q) == ((hasB p q.1) || (hasB q p.1)))) || ((overlapB p q) && (!((hasB p q.1) || (hasB q p.1))))) || (!((touchB p q) == (touchB q p)))) || (!((overlapB p q) == (overlapB q p)))) e62 (fun hc2 => ?_) (fun hc2 => ?_)
    · have hd2 := hc2; try simp only [Bool.and_eq_true, Bool.or_eq_true, decide_eq_true_eq, decide_eq_false_iff_not, Bool.not_eq_true', Bool.and_eq_false_iff, Bool.or_eq_false_iff, Bool.not_eq_false', Int.not_lt, Int.not_le, beq_iff_eq, spanB] at hd2
      refine wp_seq ?_
      refine region_St (bf := [0]) (sp := [
          (det (Nw w) 6 (.bool (false)))])
        [(ibox 29 (Nw w) b1x3 [(.int .i64 (p.1)), (.int .i64 (p.2))]), (ibox 29 (Nw w) b1x4 [(.int .i64 (q.1)), (.int .i64 (q.2))])] mixed st5 (by kernel_rfl) ⟨r0, r1, trivial⟩
        ⟨Ob.det rfl rfl rfl (fun _ a_ _ _ c => r_assign rfl rfl),
         trivial⟩ ?_
      intro a6 w6 τ6 st6 f6
      replace e0 := f6.old e0 (by kernel_rfl)
      replace e1 := f6.old e1 (by kernel_rfl)
      replace e2 := f6.old e2 (by kernel_rfl)
      replace e3 := f6.old e3 (by kernel_rfl)
      replace e4 := f6.old e4 (by kernel_rfl)
      have e6 : get a6 6 = (.bool (false)) := f6.v 0 rfl
      replace e7 := f6.old e7 (by kernel_rfl)
      replace e19 := f6.old e19 (by kernel_rfl)
      replace e62 := f6.old e62 (by kernel_rfl)
      replace r0 : boxR 29 [(.int .i64 (p.1)), (.int .i64 (p.2))] (τ6 0) b1x3 w6 := f6.ibox 0 rfl rfl
      replace r1 : boxR 29 [(.int .i64 (q.1)), (.int .i64 (q.2))] (τ6 1) b1x4 w6 := f6.ibox 1 rfl rfl
      clear f6
      show Code.wp _ _ _ a6 w6
      refine wp_ret ?_
      repeat (first | with_reducible refine then_ret ?_ | with_reducible refine block_ret ?_)
      refine ret1 (fn := Try.f10) rfl st6.defers e6 ?_
      exact ⟨congrArg _ (congrArg _ (show (false) = true from by first | exact Bool.noConfusion ((agree_2 p q n).symm.trans hc3) | exact Bool.noConfusion ((agree_1 hd1.1 hd1.2).symm.trans hc2))), st6.ext0⟩
    · have hd2 := hc2; try simp only [Bool.and_eq_true, Bool.or_eq_true, decide_eq_true_eq, decide_eq_false_iff_not, Bool.not_eq_true', Bool.and_eq_false_iff, Bool.or_eq_false_iff, Bool.not_eq_false', Int.not_lt, Int.not_le, beq_iff_eq, spanB] at hd2
      refine wp_skip ?_
      show Code.wp _ _ _ a5 w5
      refine wp_seq ?_
      refine wp_seq ?_
      refine region_St (bf := [0, 0, 3, 7, 15, 15, 63, 127, 255, 511, 511, 2047, 4095, 8191, 16383, 32767, 32767, 131071, 262143, 524287, 1048575, 524287, 2621439, 8388607, 16777215, 33554431, 67108863, 67108863, 268435455, 536870911, 1073741823, 2147483647]) (sp := [
          (det (Nw w) 63 (.agg #[(.int .i64 (p.1)), (.int .i64 (p.2))])),
                (det (Nw w) 64 (.agg #[(.int .i64 (q.1)), (.int .i64 (q.2))])),
                (det (Nw w) 65 (.bool (withinB p q))),
                (det (Nw w) 66 (.bool (withinB p q))),
                (gdet (Nw w) 67 ((withinB p q) = true) (.agg #[(.int .i64 (p.1)), (.int .i64 (p.2))])),
                (gdet (Nw w) 68 ((withinB p q) = true) (.int .i64 (n))),
                (gdet (Nw w) 69 ((withinB p q) = true) (.bool (hasB p n))),
                (det (Nw w) 70 (.bool ((withinB p q) && (hasB p n)))),
                (det (Nw w) 71 (.bool ((withinB p q) && (hasB p n)))),
                (gdet (Nw w) 72 (((withinB p q) && (hasB p n)) = true) (.agg #[(.int .i64 (q.1)), (.int .i64 (q.2))])),
                (gdet (Nw w) 73 (((withinB p q) && (hasB p n)) = true) (.int .i64 (n))),
                (gdet (Nw w) 74 (((withinB p q) && (hasB p n)) = true) (.bool (hasB q n))),
                (gdet (Nw w) 75 (((withinB p q) && (hasB p n)) = true) (.bool (!(hasB q n)))),
                (det (Nw w) 76 (.bool (((withinB p q) && (hasB p n)) && (!(hasB q n))))),
                (det (Nw w) 77 (.bool (((withinB p q) && (hasB p n)) && (!(hasB q n))))),
                (gdet (Nw w) 78 ((((withinB p q) && (hasB p n)) && (!(hasB q n))) = false) (.agg #[(.int .i64 (p.1)), (.int .i64 (p.2))])),
                (gdet (Nw w) 79 ((((withinB p q) && (hasB p n)) && (!(hasB q n))) = false) (.agg #[(.int .i64 (q.1)), (.int .i64 (q.2))])),
                (gdet (Nw w) 80 ((((withinB p q) && (hasB p n)) && (!(hasB q n))) = false) (.bool (withinB p q))),
                (gdet (Nw w) 81 ((((withinB p q) && (hasB p n)) && (!(hasB q n))) = false) (.bool (withinB p q))),
                (gdet (Nw w) 82 (((((withinB p q) && (hasB p n)) && (!(hasB q n))) = false) ∧ (withinB p q) = true) (.pointer (some ((ptrOf b1x3).add 0)))),
                (gdet (Nw w) 83 (((((withinB p q) && (hasB p n)) && (!(hasB q n))) = false) ∧ (withinB p q) = true) (.int .i64 (p.1))),
                (gdet (Nw w) 84 (((((withinB p q) && (hasB p n)) && (!(hasB q n))) = false) ∧ (withinB p q) = true) (.pointer (some ((ptrOf b1x3).add 1)))),
                (gdet (Nw w) 85 (((((withinB p q) && (hasB p n)) && (!(hasB q n))) = false) ∧ (withinB p q) = true) (.int .i64 (p.2))),
                (gdet (Nw w) 86 (((((withinB p q) && (hasB p n)) && (!(hasB q n))) = false) ∧ (withinB p q) = true) (.bool (decide (p.1 < p.2)))),
                (gdet (Nw w) 87 ((((withinB p q) && (hasB p n)) && (!(hasB q n))) = false) (.bool ((withinB p q) && (decide (p.1 < p.2))))),
                (gdet (Nw w) 88 ((((withinB p q) && (hasB p n)) && (!(hasB q n))) = false) (.bool ((withinB p q) && (decide (p.1 < p.2))))),
                (gdet (Nw w) 89 (((((withinB p q) && (hasB p n)) && (!(hasB q n))) = false) ∧ ((withinB p q) && (decide (p.1 < p.2))) = true) (.agg #[(.int .i64 (p.1)), (.int .i64 (p.2))])),
                (gdet (Nw w) 90 (((((withinB p q) && (hasB p n)) && (!(hasB q n))) = false) ∧ ((withinB p q) && (decide (p.1 < p.2))) = true) (.agg #[(.int .i64 (q.1)), (.int .i64 (q.2))])),
                (gdet (Nw w) 91 (((((withinB p q) && (hasB p n)) && (!(hasB q n))) = false) ∧ ((withinB p q) && (decide (p.1 < p.2))) = true) (.bool (overlapB p q))),
                (gdet (Nw w) 92 (((((withinB p q) && (hasB p n)) && (!(hasB q n))) = false) ∧ ((withinB p q) && (decide (p.1 < p.2))) = true) (.bool (!(overlapB p q)))),
                (gdet (Nw w) 93 ((((withinB p q) && (hasB p n)) && (!(hasB q n))) = false) (.bool (((withinB p q) && (decide (p.1 < p.2))) && (!(overlapB p q))))),
                (det (Nw w) 94 (.bool ((((withinB p q) && (hasB p n)) && (!(hasB q n))) || (((withinB p q) && (decide (p.1 < p.2))) && (!(overlapB p q))))))])
        [(ibox 29 (Nw w) b1x3 [(.int .i64 (p.1)), (.int .i64 (p.2))]), (ibox 29 (Nw w) b1x4 [(.int .i64 (q.1)), (.int .i64 (q.2))])] mixed st5 (by kernel_rfl) ⟨r0, r1, trivial⟩
        ⟨Ob.det rfl rfl rfl (fun _ a_ _ _ c => r_loadN (vs := [(.int .i64 (p.1)), (.int .i64 (p.2))]) rfl Try.isAgg29 Try.sizeOf29 ((c.eo e3 (by kernel_rfl)).trans r0.ptr) rfl (fun _ _ hj => (c.ibox 0 rfl rfl (by kernel_rfl)).cell hj)),
               Ob.det rfl rfl rfl (fun _ a_ _ _ c => r_loadN (vs := [(.int .i64 (q.1)), (.int .i64 (q.2))]) rfl Try.isAgg29 Try.sizeOf29 ((c.eo e4 (by kernel_rfl)).trans r1.ptr) rfl (fun _ _ hj => (c.ibox 1 rfl rfl (by kernel_rfl)).cell hj)),
               Ob.call rfl rfl rfl (fun _ a_ _ _ c => ⟨_, _, (e_call2 rfl rfl Try.call22 (c.ev 0 rfl rfl) (c.ev 1 rfl rfl)), within_c p q _⟩),
               Ob.det rfl rfl rfl (fun _ a_ _ _ c => r_move rfl (c.ev 2 rfl rfl)),
               Ob.gdet rfl rfl rfl rfl (gi := 3) (tg := 66) rfl rfl Iff.rfl (fun _ a_ _ _ c hpc => r_loadN (vs := [(.int .i64 (p.1)), (.int .i64 (p.2))]) rfl Try.isAgg29 Try.sizeOf29 ((c.eo e3 (by kernel_rfl)).trans r0.ptr) rfl (fun _ _ hj => (c.ibox 0 rfl rfl (by kernel_rfl)).cell hj)),
               Ob.gdet rfl rfl rfl rfl (gi := 3) (tg := 66) rfl rfl Iff.rfl (fun _ a_ _ _ c hpc => r_move rfl (c.eo e2 (by kernel_rfl))),
               Ob.gcall rfl rfl rfl rfl (gi := 3) (tg := 66) rfl rfl Iff.rfl (fun _ a_ _ _ c hpc => ⟨_, _, (e_call2 rfl rfl Try.call15 (c.eg 4 rfl rfl hpc) (c.eg 5 rfl rfl hpc)), has_c p n _⟩),
               Ob.det rfl rfl rfl (fun _ a_ _ _ c => r_and rfl (c.ev 3 rfl rfl) (fun h => (c.eg 6 rfl rfl h))),
               Ob.det rfl rfl rfl (fun _ a_ _ _ c => r_move rfl (c.ev 7 rfl rfl)),
               Ob.gdet rfl rfl rfl rfl (gi := 8) (tg := 71) rfl rfl Iff.rfl (fun _ a_ _ _ c hpc => r_loadN (vs := [(.int .i64 (q.1)), (.int .i64 (q.2))]) rfl Try.isAgg29 Try.sizeOf29 ((c.eo e4 (by kernel_rfl)).trans r1.ptr) rfl (fun _ _ hj => (c.ibox 1 rfl rfl (by kernel_rfl)).cell hj)),
               Ob.gdet rfl rfl rfl rfl (gi := 8) (tg := 71) rfl rfl Iff.rfl (fun _ a_ _ _ c hpc => r_move rfl (c.eo e2 (by kernel_rfl))),
               Ob.gcall rfl rfl rfl rfl (gi := 8) (tg := 71) rfl rfl Iff.rfl (fun _ a_ _ _ c hpc => ⟨_, _, (e_call2 rfl rfl Try.call15 (c.eg 9 rfl rfl hpc) (c.eg 10 rfl rfl hpc)), has_c q n _⟩),
               Ob.gdet rfl rfl rfl rfl (gi := 8) (tg := 71) rfl rfl Iff.rfl (fun _ a_ _ _ c hpc => r_not rfl (c.eg 11 rfl rfl hpc)),
               Ob.det rfl rfl rfl (fun _ a_ _ _ c => r_and rfl (c.ev 8 rfl rfl) (fun h => (c.eg 12 rfl rfl h))),
               Ob.det rfl rfl rfl (fun _ a_ _ _ c => r_move rfl (c.ev 13 rfl rfl)),
               Ob.gdet rfl rfl rfl rfl (gi := 14) (tg := 77) rfl rfl Iff.rfl (fun _ a_ _ _ c hpc => r_loadN (vs := [(.int .i64 (p.1)), (.int .i64 (p.2))]) rfl Try.isAgg29 Try.sizeOf29 ((c.eo e3 (by kernel_rfl)).trans r0.ptr) rfl (fun _ _ hj => (c.ibox 0 rfl rfl (by kernel_rfl)).cell hj)),
               Ob.gdet rfl rfl rfl rfl (gi := 14) (tg := 77) rfl rfl Iff.rfl (fun _ a_ _ _ c hpc => r_loadN (vs := [(.int .i64 (q.1)), (.int .i64 (q.2))]) rfl Try.isAgg29 Try.sizeOf29 ((c.eo e4 (by kernel_rfl)).trans r1.ptr) rfl (fun _ _ hj => (c.ibox 1 rfl rfl (by kernel_rfl)).cell hj)),
               Ob.gcall rfl rfl rfl rfl (gi := 14) (tg := 77) rfl rfl Iff.rfl (fun _ a_ _ _ c hpc => ⟨_, _, (e_call2 rfl rfl Try.call22 (c.eg 15 rfl rfl hpc) (c.eg 16 rfl rfl hpc)), within_c p q _⟩),
               Ob.gdet rfl rfl rfl rfl (gi := 14) (tg := 77) rfl rfl Iff.rfl (fun _ a_ _ _ c hpc => r_move rfl (c.eg 17 rfl rfl hpc)),
               Ob.ggdet rfl rfl rfl rfl (gi := 18) (tg := 81) rfl rfl Iff.rfl (fun _ a_ _ _ c hpc => r_fieldAddr rfl Try.underlying29 rfl rfl Try.sizeOf3 ((c.eo e3 (by kernel_rfl)).trans r0.ptr)),
               Ob.ggdet rfl rfl rfl rfl (gi := 18) (tg := 81) rfl rfl Iff.rfl (fun _ a_ _ _ c hpc => r_load1 rfl Try.isAgg3 (c.eg 19 rfl rfl hpc) ((c.ibox 0 rfl rfl (by kernel_rfl)).cell (j := 0) rfl)),
               Ob.ggdet rfl rfl rfl rfl (gi := 18) (tg := 81) rfl rfl Iff.rfl (fun _ a_ _ _ c hpc => r_fieldAddr rfl Try.underlying29 rfl rfl Try.sizeOf3 ((c.eo e3 (by kernel_rfl)).trans r0.ptr)),
               Ob.ggdet rfl rfl rfl rfl (gi := 18) (tg := 81) rfl rfl Iff.rfl (fun _ a_ _ _ c hpc => r_load1 rfl Try.isAgg3 (c.eg 21 rfl rfl hpc) ((c.ibox 0 rfl rfl (by kernel_rfl)).cell (j := 1) rfl)),
               Ob.ggdet rfl rfl rfl rfl (gi := 18) (tg := 81) rfl rfl Iff.rfl (fun _ a_ _ _ c hpc => r_lss rfl (c.eg 20 rfl rfl hpc) (c.eg 22 rfl rfl hpc)),
               Ob.gdet rfl rfl rfl rfl (gi := 14) (tg := 77) rfl rfl Iff.rfl (fun _ a_ _ _ c hpc => r_and rfl (c.eg 18 rfl rfl hpc) (fun h => (c.eg 23 rfl rfl ⟨hpc, h⟩))),
               Ob.gdet rfl rfl rfl rfl (gi := 14) (tg := 77) rfl rfl Iff.rfl (fun _ a_ _ _ c hpc => r_move rfl (c.eg 24 rfl rfl hpc)),
               Ob.ggdet rfl rfl rfl rfl (gi := 25) (tg := 88) rfl rfl Iff.rfl (fun _ a_ _ _ c hpc => r_loadN (vs := [(.int .i64 (p.1)), (.int .i64 (p.2))]) rfl Try.isAgg29 Try.sizeOf29 ((c.eo e3 (by kernel_rfl)).trans r0.ptr) rfl (fun _ _ hj => (c.ibox 0 rfl rfl (by kernel_rfl)).cell hj)),
               Ob.ggdet rfl rfl rfl rfl (gi := 25) (tg := 88) rfl rfl Iff.rfl (fun _ a_ _ _ c hpc => r_loadN (vs := [(.int .i64 (q.1)), (.int .i64 (q.2))]) rfl Try.isAgg29 Try.sizeOf29 ((c.eo e4 (by kernel_rfl)).trans r1.ptr) rfl (fun _ _ hj => (c.ibox 1 rfl rfl (by kernel_rfl)).cell hj)),
               Ob.ggcall rfl rfl rfl rfl (gi := 25) (tg := 88) rfl rfl Iff.rfl (fun _ a_ _ _ c hpc => ⟨_, _, (e_call2 rfl rfl Try.call24 (c.eg 26 rfl rfl hpc) (c.eg 27 rfl rfl hpc)), overlap_c p q _⟩),
               Ob.ggdet rfl rfl rfl rfl (gi := 25) (tg := 88) rfl rfl Iff.rfl (fun _ a_ _ _ c hpc => r_not rfl (c.eg 28 rfl rfl hpc)),
               Ob.gdet rfl rfl rfl rfl (gi := 14) (tg := 77) rfl rfl Iff.rfl (fun _ a_ _ _ c hpc => r_and rfl (c.eg 25 rfl rfl hpc) (fun h => (c.eg 29 rfl rfl ⟨hpc, h⟩))),
               Ob.det rfl rfl rfl (fun _ a_ _ _ c => r_or rfl (c.ev 14 rfl rfl) (fun h => (c.eg 30 rfl rfl h))),
         trivial⟩ ?_
      intro a7 w7 τ7 st7 f7
      replace e0 := f7.old e0 (by kernel_rfl)
      replace e1 := f7.old e1 (by kernel_rfl)
      replace e2 := f7.old e2 (by kernel_rfl)
      replace e3 := f7.old e3 (by kernel_rfl)
      replace e4 := f7.old e4 (by kernel_rfl)
      replace e6 := f7.old e6 (by kernel_rfl)
      replace e7 := f7.old e7 (by kernel_rfl)
      replace e19 := f7.old e19 (by kernel_rfl)
      replace e62 := f7.old e62 (by kernel_rfl)
      have e94 : get a7 94 = (.bool ((((withinB p q) && (hasB p n)) && (!(hasB q n))) || (((withinB p q) && (decide (p.1 < p.2))) && (!(overlapB p q))))) := f7.v 31 rfl
      replace r0 : boxR 29 [(.int .i64 (p.1)), (.int .i64 (p.2))] (τ7 0) b1x3 w7 := f7.ibox 0 rfl rfl
      replace r1 : boxR 29 [(.int .i64 (q.1)), (.int .i64 (q.2))] (τ7 1) b1x4 w7 := f7.ibox 1 rfl rfl
      clear f7
      show Code.wp _ _ _ a7 w7
      refine wp_cond_split (t := (((withinB p q) && (hasB p n)) && (!(hasB q n))) || (((withinB p q) && (decide (p.1 < p.2))) && (!(overlapB p q)))) e94 (fun hc3 => ?_) (fun hc3 => ?_)
      · have hd3 := hc3; try simp only [Bool.and_eq_true, Bool.or_eq_true, decide_eq_true_eq, decide_eq_false_iff_not, Bool.not_eq_true', Bool.and_eq_false_iff, Bool.or_eq_false_iff, Bool.not_eq_false', Int.not_lt, Int.not_le, beq_iff_eq, spanB] at hd3
        refine wp_seq ?_
        refine region_St (bf := [0]) (sp := [
            (det (Nw w) 6 (.bool (false)))])
          [(ibox 29 (Nw w) b1x3 [(.int .i64 (p.1)), (.int .i64 (p.2))]), (ibox 29 (Nw w) b1x4 [(.int .i64 (q.1)), (.int .i64 (q.2))])] mixed st7 (by kernel_rfl) ⟨r0, r1, trivial⟩
          ⟨Ob.det rfl rfl rfl (fun _ a_ _ _ c => r_assign rfl rfl),
           trivial⟩ ?_
        intro a8 w8 τ8 st8 f8
        replace e0 := f8.old e0 (by kernel_rfl)
        replace e1 := f8.old e1 (by kernel_rfl)
        replace e2 := f8.old e2 (by kernel_rfl)
        replace e3 := f8.old e3 (by kernel_rfl)
        replace e4 := f8.old e4 (by kernel_rfl)
        have e6 : get a8 6 = (.bool (false)) := f8.v 0 rfl
        replace e7 := f8.old e7 (by kernel_rfl)
        replace e19 := f8.old e19 (by kernel_rfl)
        replace e62 := f8.old e62 (by kernel_rfl)
        replace e94 := f8.old e94 (by kernel_rfl)
        replace r0 : boxR 29 [(.int .i64 (p.1)), (.int .i64 (p.2))] (τ8 0) b1x3 w8 := f8.ibox 0 rfl rfl
        replace r1 : boxR 29 [(.int .i64 (q.1)), (.int .i64 (q.2))] (τ8 1) b1x4 w8 := f8.ibox 1 rfl rfl
        clear f8
        show Code.wp _ _ _ a8 w8
        refine wp_ret ?_
        repeat (first | with_reducible refine then_ret ?_ | with_reducible refine block_ret ?_)
        refine ret1 (fn := Try.f10) rfl st8.defers e6 ?_
        exact ⟨congrArg _ (congrArg _ (show (false) = true from by first | exact Bool.noConfusion ((agree_2 p q n).symm.trans hc3) | exact Bool.noConfusion ((agree_1 hd1.1 hd1.2).symm.trans hc2))), st8.ext0⟩
      · have hd3 := hc3; try simp only [Bool.and_eq_true, Bool.or_eq_true, decide_eq_true_eq, decide_eq_false_iff_not, Bool.not_eq_true', Bool.and_eq_false_iff, Bool.or_eq_false_iff, Bool.not_eq_false', Int.not_lt, Int.not_le, beq_iff_eq, spanB] at hd3
        refine wp_skip ?_
        show Code.wp _ _ _ a7 w7
        refine wp_seq ?_
        refine region_St (bf := [0, 0, 3, 7, 15, 31, 63]) (sp := [
            (det (Nw w) 95 (.agg #[(.int .i64 (p.1)), (.int .i64 (p.2))])),
                    (det (Nw w) 96 (.agg #[(.int .i64 (p.1)), (.int .i64 (p.2))])),
                    (det (Nw w) 97 (.bool (withinB p p))),
                    (det (Nw w) 98 (.bool (withinB p p))),
                    (gdet (Nw w) 99 ((withinB p p) = true) (.bool (true))),
                    (det (Nw w) 100 (.bool ((withinB p p) && true))),
                    (det (Nw w) 6 (.bool ((withinB p p) && true)))])
          [(ibox 29 (Nw w) b1x3 [(.int .i64 (p.1)), (.int .i64 (p.2))]), (ibox 29 (Nw w) b1x4 [(.int .i64 (q.1)), (.int .i64 (q.2))])] mixed st7 (by kernel_rfl) ⟨r0, r1, trivial⟩
          ⟨Ob.det rfl rfl rfl (fun _ a_ _ _ c => r_loadN (vs := [(.int .i64 (p.1)), (.int .i64 (p.2))]) rfl Try.isAgg29 Try.sizeOf29 ((c.eo e3 (by kernel_rfl)).trans r0.ptr) rfl (fun _ _ hj => (c.ibox 0 rfl rfl (by kernel_rfl)).cell hj)),
                   Ob.det rfl rfl rfl (fun _ a_ _ _ c => r_loadN (vs := [(.int .i64 (p.1)), (.int .i64 (p.2))]) rfl Try.isAgg29 Try.sizeOf29 ((c.eo e3 (by kernel_rfl)).trans r0.ptr) rfl (fun _ _ hj => (c.ibox 0 rfl rfl (by kernel_rfl)).cell hj)),
                   Ob.call rfl rfl rfl (fun _ a_ _ _ c => ⟨_, _, (e_call2 rfl rfl Try.call22 (c.ev 0 rfl rfl) (c.ev 1 rfl rfl)), within_c p p _⟩),
                   Ob.det rfl rfl rfl (fun _ a_ _ _ c => r_move rfl (c.ev 2 rfl rfl)),
                   Ob.gcall rfl rfl rfl rfl (gi := 3) (tg := 98) rfl rfl Iff.rfl (fun _ a_ _ _ c hpc => ⟨_, _, (e_call0 rfl rfl Try.call11), awake_c _⟩),
                   Ob.det rfl rfl rfl (fun _ a_ _ _ c => r_and rfl (c.ev 3 rfl rfl) (fun h => (c.eg 4 rfl rfl h))),
                   Ob.det rfl rfl rfl (fun _ a_ _ _ c => r_assign rfl (c.ev 5 rfl rfl)),
           trivial⟩ ?_
        intro a9 w9 τ9 st9 f9
        replace e0 := f9.old e0 (by kernel_rfl)
        replace e1 := f9.old e1 (by kernel_rfl)
        replace e2 := f9.old e2 (by kernel_rfl)
        replace e3 := f9.old e3 (by kernel_rfl)
        replace e4 := f9.old e4 (by kernel_rfl)
        have e6 : get a9 6 = (.bool ((withinB p p) && true)) := f9.v 6 rfl
        replace e7 := f9.old e7 (by kernel_rfl)
        replace e19 := f9.old e19 (by kernel_rfl)
        replace e62 := f9.old e62 (by kernel_rfl)
        replace e94 := f9.old e94 (by kernel_rfl)
        replace r0 : boxR 29 [(.int .i64 (p.1)), (.int .i64 (p.2))] (τ9 0) b1x3 w9 := f9.ibox 0 rfl rfl
        replace r1 : boxR 29 [(.int .i64 (q.1)), (.int .i64 (q.2))] (τ9 1) b1x4 w9 := f9.ibox 1 rfl rfl
        clear f9
        show Code.wp _ _ _ a9 w9
        refine wp_ret ?_
        repeat (first | with_reducible refine then_ret ?_ | with_reducible refine block_ret ?_)
        refine ret1 (fn := Try.f10) rfl st9.defers e6 ?_
        exact ⟨congrArg _ (congrArg _ (show ((withinB p p) && true) = true from by simp [withinB])), st9.ext0⟩
end B
end Go.Proofs.Ytgcpgdhadeekcaa
