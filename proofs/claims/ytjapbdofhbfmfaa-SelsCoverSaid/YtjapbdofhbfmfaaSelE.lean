/-
  Walks, printed by a program (gen.py): SelE.
-/
import Derived.Test.YtjapbdofhbfmfaaSelD
import Derived.Test.YtjapbdofhbfmfaaEdD
import Derived.Test.YtjapbdofhbfmfaaBase7
set_option linter.unusedSimpArgs false
set_option linter.unusedVariables false
namespace Go.Proofs.Ytjapbdofhbfmfaa
namespace B
open Go.RowKit
open Srt
theorem upto_succ {f : Int → Bool} {k : Nat} (h : ∀ i < k, f ((i : Nat) : Int) = false) (h2 : f (k : Int) = false) : ∀ i < k + 1, f ((i : Nat) : Int) = false := by
  intro i hi
  by_cases e : i = k
  · subst e; exact h2
  · exact h i (by omega)
def contO (acc : List (Int × Int)) (s : Int × Int) : Bool := decide ((acc.length : Int) - 1 < 0) || !(touchB (sspan (nth acc ((acc.length : Int) - 1))) (sspan s))
def joinO (l s : Int × Int) : Int × Int := if decide (l.2 < l.1) = true then (max (sspan l).2 (sspan s).2, (sspan l).1) else ((sspan l).1, max (sspan l).2 (sspan s).2)
def stepO (acc : List (Int × Int)) (s : Int × Int) : List (Int × Int) := if contO acc s = true then acc ++ [s] else acc.set ((acc.length : Int) - 1).toNat (joinO (nth acc ((acc.length : Int) - 1)) s)
def foldO (xs : List (Int × Int)) : List (Int × Int) := xs.foldl stepO []
def ordF (xs : List (Int × Int)) : List (Int × Int) := foldO (isort ltSel xs)
theorem foldO_snoc (xs : List (Int × Int)) (p : Int × Int) : foldO (xs ++ [p]) = stepO (foldO xs) p := by simp [foldO]
theorem foldO_add {xs : List (Int × Int)} {k : Nat} (h : k < xs.length) (hc : contO (foldO (xs.take k)) (nth xs (k : Int)) = true) : foldO (xs.take (k + 1)) = foldO (xs.take k) ++ [nth xs (k : Int)] := by
  rw [take_snoc h, foldO_snoc, stepO, if_pos hc]
theorem foldO_back {xs : List (Int × Int)} {k : Nat} (h : k < xs.length) (hc : contO (foldO (xs.take k)) (nth xs (k : Int)) = false)
    (hb : decide ((nth (foldO (xs.take k)) (((foldO (xs.take k)).length : Int) - 1)).2 < (nth (foldO (xs.take k)) (((foldO (xs.take k)).length : Int) - 1)).1) = true) :
    foldO (xs.take (k + 1)) = (foldO (xs.take k)).set (((foldO (xs.take k)).length : Int) - 1).toNat (max (sspan (nth (foldO (xs.take k)) (((foldO (xs.take k)).length : Int) - 1))).2 (sspan (nth xs (k : Int))).2, (sspan (nth (foldO (xs.take k)) (((foldO (xs.take k)).length : Int) - 1))).1) := by
  rw [take_snoc h, foldO_snoc, stepO, if_neg (by rw [hc]; decide), joinO, if_pos hb]
theorem foldO_on {xs : List (Int × Int)} {k : Nat} (h : k < xs.length) (hc : contO (foldO (xs.take k)) (nth xs (k : Int)) = false)
    (hb : decide ((nth (foldO (xs.take k)) (((foldO (xs.take k)).length : Int) - 1)).2 < (nth (foldO (xs.take k)) (((foldO (xs.take k)).length : Int) - 1)).1) = false) :
    foldO (xs.take (k + 1)) = (foldO (xs.take k)).set (((foldO (xs.take k)).length : Int) - 1).toNat ((sspan (nth (foldO (xs.take k)) (((foldO (xs.take k)).length : Int) - 1))).1, max (sspan (nth (foldO (xs.take k)) (((foldO (xs.take k)).length : Int) - 1))).2 (sspan (nth xs (k : Int))).2) := by
  rw [take_snoc h, foldO_snoc, stepO, if_neg (by rw [hc]; decide), joinO, if_neg (by rw [hb]; decide)]
theorem foldO_le (xs : List (Int × Int)) : (foldO xs).length ≤ xs.length := by
  induction xs using snoc_ind with
  | h0 => simp [foldO]
  | h1 xs x ih =>
    rw [foldO_snoc, stepO]
    split
    · simp; omega
    · simp; omega
theorem foldO_take {xs : List (Int × Int)} {k : Nat} : (foldO (xs.take k)).length ≤ k := by
  have h1 := foldO_le (xs.take k)
  have h2 := List.length_take_le k xs
  omega
def normE (n : Int) (xs : List (Int × Int)) : Int := if xs.length = 0 then 2 else if 64 < xs.length then 7 else if (xs.any fun s => !(mayB (sspan s) n)) = true then 3 else 0
def normF (n : Int) (xs : List (Int × Int)) : List (Int × Int) := if normE n xs = 0 then ordF xs else []
theorem normE_2 {n : Int} {xs : List (Int × Int)} (h : decide ((xs.length : Int) = 0) = true) : normE n xs = 2 ∧ normF n xs = [] := by
  have e : normE n xs = 2 := by
    unfold normE
    rw [if_pos (by have := of_decide_eq_true h; omega)]
  exact ⟨e, by unfold normF; rw [e]; rfl⟩
theorem normE_7 {n : Int} {xs : List (Int × Int)} (h : decide ((xs.length : Int) = 0) = false) (h2 : decide ((64 : Int) < (xs.length : Int)) = true) : normE n xs = 7 ∧ normF n xs = [] := by
  have e : normE n xs = 7 := by
    unfold normE
    rw [if_neg (by have := of_decide_eq_false h; omega), if_pos (by have := of_decide_eq_true h2; omega)]
  exact ⟨e, by unfold normF; rw [e]; rfl⟩
theorem normE_3 {n : Int} {xs : List (Int × Int)} {k : Nat} (h : decide ((xs.length : Int) = 0) = false) (h2 : decide ((64 : Int) < (xs.length : Int)) = false) (hk : k < xs.length) (hb : (!(mayB (sspan (nth xs (k : Int))) n)) = true) : normE n xs = 3 ∧ normF n xs = [] := by
  have e : normE n xs = 3 := by
    unfold normE
    rw [if_neg (by have := of_decide_eq_false h; omega), if_neg (by have := of_decide_eq_false h2; omega), if_pos (List.any_eq_true.2 ⟨_, List.mem_of_getElem? (nth_lt hk), hb⟩)]
  exact ⟨e, by unfold normF; rw [e]; rfl⟩
theorem normE_ok {n : Int} {xs : List (Int × Int)} {k : Nat} (h : decide ((xs.length : Int) = 0) = false) (h2 : decide ((64 : Int) < (xs.length : Int)) = false) (hq : ∀ i < k, (!(mayB (sspan (nth xs ((i : Nat) : Int))) n)) = false) (hk : xs.length ≤ k) : normE n xs = 0 ∧ normF n xs = ordF xs := by
  have e : normE n xs = 0 := by
    unfold normE
    rw [if_neg (by have := of_decide_eq_false h; omega), if_neg (by have := of_decide_eq_false h2; omega), if_neg]
    rw [List.any_eq_true]
    rintro ⟨s, hs, hb⟩
    obtain ⟨i, hi, rfl⟩ := List.getElem_of_mem hs
    have := hq i (by omega)
    rw [nth_of (List.getElem?_eq_getElem hi), hb] at this
    cases this
  exact ⟨e, by unfold normF; rw [if_pos e]⟩
def revS {α : Type} [Inhabited α] (xs : List α) : Nat → List α
  | 0 => xs
  | n + 1 => swp (revS xs n) (n : Int) ((xs.length : Int) - 1 - n)
theorem revS_len {α : Type} [Inhabited α] (xs : List α) (n : Nat) : (revS xs n).length = xs.length := by
  induction n with
  | zero => rfl
  | succ n ih => rw [revS, swp_len, ih]
theorem revS_spec {α : Type} [Inhabited α] : ∀ (n : Nat) (A M B : List α), A.length = n → B.length = n → revS (A ++ (M ++ B)) n = B.reverse ++ (M ++ A.reverse) := by
  intro n
  induction n with
  | zero => intro A M B hA hB; obtain rfl := List.eq_nil_of_length_eq_zero hA; obtain rfl := List.eq_nil_of_length_eq_zero hB; simp [revS]
  | succ n ih =>
    intro A M B hA hB
    obtain ⟨A', x, rfl⟩ : ∃ P' y, A = P' ++ [y] := ⟨A.dropLast, A.getLast (by intro e; simp [e] at hA), (List.dropLast_concat_getLast _).symm⟩
    obtain ⟨y, B', rfl⟩ : ∃ y B', B = y :: B' := by cases B with | nil => simp at hB | cons y B' => exact ⟨y, B', rfl⟩
    simp at hA hB
    have h1 := ih A' (x :: (M ++ [y])) B' hA hB
    rw [revS, show A' ++ [x] ++ (M ++ y :: B') = A' ++ (x :: (M ++ [y]) ++ B') by simp, h1]
    have := swp_lt (A := B'.reverse) (M := M) (C := A'.reverse) (x := x) (y := y) (i := (n : Int)) (j := ((A' ++ (x :: (M ++ [y]) ++ B')).length : Int) - 1 - n) (by simp; omega) (by simp; omega)
    simpa using this
theorem revS_all {α : Type} [Inhabited α] {xs : List α} {n : Nat} (h1 : 2 * n ≤ xs.length) (h2 : xs.length ≤ 2 * n + 1) : revS xs n = xs.reverse := by
  have e : xs = xs.take n ++ (seg xs n (xs.length - n) ++ xs.drop (xs.length - n)) := by
    rw [← seg_drop (by omega), List.take_append_drop]
  have hl : (seg xs n (xs.length - n)).length ≤ 1 := by rw [seg_len (by omega)]; omega
  have hr : (seg xs n (xs.length - n)).reverse = seg xs n (xs.length - n) := by
    generalize seg xs n (xs.length - n) = m at hl
    match m, hl with
    | [], _ => rfl
    | [a], _ => rfl
  have h3 := revS_spec n (xs.take n) (seg xs n (xs.length - n)) (xs.drop (xs.length - n)) (by simp; omega) (by simp; omega)
  rw [← e] at h3
  rw [h3]
  conv => rhs; rw [e]
  simp [hr]
def oneW (a : Int) (r : Bool) (e : Int × Int × ByteArray) : Int := if a < e.1 then a else if e.2.1 < a then IntKind.i64.wrap (a + IntKind.i64.wrap ((e.2.2.size : Int) - lenW (e.1, e.2.1))) else if r = true then IntKind.i64.wrap (e.1 + (e.2.2.size : Int)) else e.1
def foldM (n : Int) (r : Bool) (xs : List (Int × Int × ByteArray)) : Int := xs.foldl (fun a e => oneW a r e) n
def moveW (n : Int) (r : Bool) (xs : List (Int × Int × ByteArray)) : Int := foldM n r (isort ltE xs).reverse
theorem foldM_succ {n : Int} {r : Bool} {xs : List (Int × Int × ByteArray)} {k : Nat} (h : k < xs.length) : foldM n r (xs.take (k + 1)) = oneW (foldM n r (xs.take k)) r (nth xs (k : Int)) := by
  rw [take_snoc h]; simp [foldM]
theorem foldM_lt {n : Int} {r : Bool} {xs : List (Int × Int × ByteArray)} {k : Nat} (h : k < xs.length) (hc : foldM n r (xs.take k) < (nth xs (k : Int)).1) : foldM n r (xs.take k) = foldM n r (xs.take (k + 1)) := by
  rw [foldM_succ h, oneW, if_pos hc]
theorem foldM_gt {n : Int} {r : Bool} {xs : List (Int × Int × ByteArray)} {k : Nat} (h : k < xs.length) (hc : (nth xs (k : Int)).1 ≤ foldM n r (xs.take k)) (hd : (nth xs (k : Int)).2.1 < foldM n r (xs.take k)) :
    IntKind.i64.wrap (foldM n r (xs.take k) + IntKind.i64.wrap (((nth xs (k : Int)).2.2.size : Int) - lenW ((nth xs (k : Int)).1, (nth xs (k : Int)).2.1))) = foldM n r (xs.take (k + 1)) := by
  rw [foldM_succ h, oneW, if_neg (by omega), if_pos hd]
theorem foldM_in {n : Int} {r : Bool} {xs : List (Int × Int × ByteArray)} {k : Nat} (h : k < xs.length) (hc : (nth xs (k : Int)).1 ≤ foldM n r (xs.take k)) (hd : foldM n r (xs.take k) ≤ (nth xs (k : Int)).2.1) (hr : r = true) :
    IntKind.i64.wrap ((nth xs (k : Int)).1 + ((nth xs (k : Int)).2.2.size : Int)) = foldM n r (xs.take (k + 1)) := by
  rw [foldM_succ h, oneW, if_neg (by omega), if_neg (by omega), if_pos hr]
theorem foldM_at {n : Int} {r : Bool} {xs : List (Int × Int × ByteArray)} {k : Nat} (h : k < xs.length) (hc : (nth xs (k : Int)).1 ≤ foldM n r (xs.take k)) (hd : foldM n r (xs.take k) ≤ (nth xs (k : Int)).2.1) (hr : r = false) :
    (nth xs (k : Int)).1 = foldM n r (xs.take (k + 1)) := by
  rw [foldM_succ h, oneW, if_neg (by omega), if_neg (by omega), if_neg (by rw [hr]; decide)]
set_option maxRecDepth 100000 in
theorem selClone_c (v : Value) (xs : List (Int × Int)) (w : World) (hS : SlT SpanE w v xs) (hbig : xs.length ≤ 1000000000000) : Calls Try.prog 24 #[v] w (fun e w' => ∃ v', e = .returned v' ∧ Ext none' w w' ∧ NewT SpanE 33 w w' v' (xs)) := by
  refine enter (n := 8) Try.func24 rfl rfl (Nat.le_of_ble_eq_true rfl) ?_
  intro a0 τ0 ha st0
  have e0 : get a0 0 = v := ha 0 _ rfl
  clear ha
  have hle := hS.le
  refine wp_seq ?_
  refine region_St (bf := [0]) (sp := [
      (det (Nw w) 2 (.slice none 0 0))])
    [] mixed st0 (by kernel_rfl) trivial
    ⟨Ob.det rfl rfl rfl (fun _ a_ _ _ c => r_assign rfl rfl),
     trivial⟩ ?_
  intro a1 w1 τ1 st1 f1
  replace e0 := f1.old e0 (by kernel_rfl)
  have e2 : get a1 2 = (.slice none 0 0) := f1.v 0 rfl
  clear f1
  show Code.wp _ _ _ a1 w1
  refine wp_seq ?_
  refine wp_seq ?_
  refine region_St (bf := [0, 1]) (sp := [
      (det (Nw w) 3 v),
        (det (Nw w) 4 (.bool (isNil v)))])
    [] mixed st1 (by kernel_rfl) trivial
    ⟨Ob.det rfl rfl rfl (fun _ a_ _ _ c => r_move rfl (c.eo e0 (by kernel_rfl))),
       Ob.det rfl rfl rfl (fun _ a_ _ _ c => r_isNil rfl Try.underlying22 (c.ev 0 rfl rfl) hS.sl),
     trivial⟩ ?_
  intro a2 w2 τ2 st2 f2
  replace e0 := f2.old e0 (by kernel_rfl)
  replace e2 := f2.old e2 (by kernel_rfl)
  have e4 : get a2 4 = (.bool (isNil v)) := f2.v 1 rfl
  clear f2
  show Code.wp _ _ _ a2 w2
  refine wp_cond_split (t := isNil v) e4 (fun hc1 => ?_) (fun hc1 => ?_)
  · try simp only [Bool.and_eq_true, Bool.or_eq_true, decide_eq_true_eq, decide_eq_false_iff_not, Bool.not_eq_true', Bool.and_eq_false_iff, Bool.or_eq_false_iff, Bool.not_eq_false', Int.not_lt, Int.not_le, beq_iff_eq, selB] at hc1
    refine wp_seq ?_
    refine region_St (bf := [0]) (sp := [
        (det (Nw w) 2 (.slice none 0 0))])
      [] mixed st2 (by kernel_rfl) trivial
      ⟨Ob.det rfl rfl rfl (fun _ a_ _ _ c => r_assign rfl rfl),
       trivial⟩ ?_
    intro a3 w3 τ3 st3 f3
    replace e0 := f3.old e0 (by kernel_rfl)
    have e2 : get a3 2 = (.slice none 0 0) := f3.v 0 rfl
    clear f3
    show Code.wp _ _ _ a3 w3
    refine wp_ret ?_
    repeat (first | with_reducible refine then_ret ?_ | with_reducible refine block_ret ?_)
    refine ret1 (fn := Try.f24) rfl st3.defers e2 ?_
    obtain rfl := hS.isNil (by assumption)
    exact ⟨_, rfl, st3.ext0, OwnT.nil _ _ _, fun g_ h_ => by simp [Value.ownBlock] at h_⟩
  try simp only [Bool.and_eq_true, Bool.or_eq_true, decide_eq_true_eq, decide_eq_false_iff_not, Bool.not_eq_true', Bool.and_eq_false_iff, Bool.or_eq_false_iff, Bool.not_eq_false', Int.not_lt, Int.not_le, beq_iff_eq, selB] at hc1
  refine wp_skip ?_
  show Code.wp _ _ _ a2 w2
  refine wp_seq ?_
  refine region_St (bf := [0, 0, 3, 7]) (sp := [
      (own SpanE 33 (Nw w) 0 5 ([])),
        (det (Nw w) 6 v),
        (own SpanE 33 (Nw w) 0 7 (([]) ++ xs)),
        (own SpanE 33 (Nw w) 0 2 (([]) ++ xs))])
    [] mixed st2 (by kernel_rfl) trivial
    ⟨Ob.buildEmpty rfl rfl rfl rfl Try.underlying22 Try.sizeOf33,
       Ob.det rfl rfl rfl (fun _ a_ _ _ c => r_move rfl (c.eo e0 (by kernel_rfl))),
       Ob.append (t0 := 5) rfl rfl rfl rfl Try.underlying22 (i := Try.t33) rfl rfl rfl rfl (by simp only [maxLen]; (try simp); omega) (by show _ * 16 ≤ _; (try simp); omega) (fun _ _ _ _ c => ⟨c.rown 0 rfl rfl (by kernel_rfl), rfl, ⟨_, (c.ev 1 rfl rfl), (hS.at (st2.ext.trans c.J.ext))⟩⟩),
       Ob.moveT (t0 := 7) rfl rfl rfl rfl rfl (.inr rfl) (fun _ _ _ _ c => ⟨c.rown 2 rfl rfl (by kernel_rfl), rfl⟩),
     trivial⟩ ?_
  intro a4 w4 τ4 st4 f4
  obtain ⟨b4x2, e2⟩ : ∃ b, get a4 2 = b := ⟨_, rfl⟩
  have r0 : ownR SpanE 33 (([]) ++ xs) (τ4 0) b4x2 w4 := f4.rown 3 rfl rfl e2
  clear f4
  show Code.wp _ _ _ a4 w4
  refine wp_ret ?_
  repeat (first | with_reducible refine then_ret ?_ | with_reducible refine block_ret ?_)
  refine ret1 (fn := Try.f24) rfl st4.defers e2 ?_
  replace r0 := r0.cast (show xs = _ from by rfl)
  exact ⟨_, rfl, st4.ext0, r0.1, fun g_ h_ => (st4.bnd _ g_ (r0.2 g_ h_)).1⟩

set_option maxRecDepth 100000 in
theorem editClone_c (v : Value) (xs : List (Int × Int × ByteArray)) (w : World) (hS : SlT EditE w v xs) (hbig : xs.length ≤ 1000000000000) : Calls Try.prog 38 #[v] w (fun e w' => ∃ v', e = .returned v' ∧ Ext none' w w' ∧ NewT EditE 42 w w' v' (xs)) := by
  refine enter (n := 8) Try.func38 rfl rfl (Nat.le_of_ble_eq_true rfl) ?_
  intro a0 τ0 ha st0
  have e0 : get a0 0 = v := ha 0 _ rfl
  clear ha
  have hle := hS.le
  refine wp_seq ?_
  refine region_St (bf := [0]) (sp := [
      (det (Nw w) 2 (.slice none 0 0))])
    [] mixed st0 (by kernel_rfl) trivial
    ⟨Ob.det rfl rfl rfl (fun _ a_ _ _ c => r_assign rfl rfl),
     trivial⟩ ?_
  intro a1 w1 τ1 st1 f1
  replace e0 := f1.old e0 (by kernel_rfl)
  have e2 : get a1 2 = (.slice none 0 0) := f1.v 0 rfl
  clear f1
  show Code.wp _ _ _ a1 w1
  refine wp_seq ?_
  refine wp_seq ?_
  refine region_St (bf := [0, 1]) (sp := [
      (det (Nw w) 3 v),
        (det (Nw w) 4 (.bool (isNil v)))])
    [] mixed st1 (by kernel_rfl) trivial
    ⟨Ob.det rfl rfl rfl (fun _ a_ _ _ c => r_move rfl (c.eo e0 (by kernel_rfl))),
       Ob.det rfl rfl rfl (fun _ a_ _ _ c => r_isNil rfl Try.underlying37 (c.ev 0 rfl rfl) hS.sl),
     trivial⟩ ?_
  intro a2 w2 τ2 st2 f2
  replace e0 := f2.old e0 (by kernel_rfl)
  replace e2 := f2.old e2 (by kernel_rfl)
  have e4 : get a2 4 = (.bool (isNil v)) := f2.v 1 rfl
  clear f2
  show Code.wp _ _ _ a2 w2
  refine wp_cond_split (t := isNil v) e4 (fun hc1 => ?_) (fun hc1 => ?_)
  · try simp only [Bool.and_eq_true, Bool.or_eq_true, decide_eq_true_eq, decide_eq_false_iff_not, Bool.not_eq_true', Bool.and_eq_false_iff, Bool.or_eq_false_iff, Bool.not_eq_false', Int.not_lt, Int.not_le, beq_iff_eq, selB] at hc1
    refine wp_seq ?_
    refine region_St (bf := [0]) (sp := [
        (det (Nw w) 2 (.slice none 0 0))])
      [] mixed st2 (by kernel_rfl) trivial
      ⟨Ob.det rfl rfl rfl (fun _ a_ _ _ c => r_assign rfl rfl),
       trivial⟩ ?_
    intro a3 w3 τ3 st3 f3
    replace e0 := f3.old e0 (by kernel_rfl)
    have e2 : get a3 2 = (.slice none 0 0) := f3.v 0 rfl
    clear f3
    show Code.wp _ _ _ a3 w3
    refine wp_ret ?_
    repeat (first | with_reducible refine then_ret ?_ | with_reducible refine block_ret ?_)
    refine ret1 (fn := Try.f38) rfl st3.defers e2 ?_
    obtain rfl := hS.isNil (by assumption)
    exact ⟨_, rfl, st3.ext0, OwnT.nil _ _ _, fun g_ h_ => by simp [Value.ownBlock] at h_⟩
  try simp only [Bool.and_eq_true, Bool.or_eq_true, decide_eq_true_eq, decide_eq_false_iff_not, Bool.not_eq_true', Bool.and_eq_false_iff, Bool.or_eq_false_iff, Bool.not_eq_false', Int.not_lt, Int.not_le, beq_iff_eq, selB] at hc1
  refine wp_skip ?_
  show Code.wp _ _ _ a2 w2
  refine wp_seq ?_
  refine region_St (bf := [0, 0, 3, 7]) (sp := [
      (own EditE 42 (Nw w) 0 5 ([])),
        (det (Nw w) 6 v),
        (own EditE 42 (Nw w) 0 7 (([]) ++ xs)),
        (own EditE 42 (Nw w) 0 2 (([]) ++ xs))])
    [] mixed st2 (by kernel_rfl) trivial
    ⟨Ob.buildEmpty rfl rfl rfl rfl Try.underlying37 Try.sizeOf42,
       Ob.det rfl rfl rfl (fun _ a_ _ _ c => r_move rfl (c.eo e0 (by kernel_rfl))),
       Ob.append (t0 := 5) rfl rfl rfl rfl Try.underlying37 (i := Try.t42) rfl rfl rfl rfl (by simp only [maxLen]; (try simp); omega) (by show _ * 32 ≤ _; (try simp); omega) (fun _ _ _ _ c => ⟨c.rown 0 rfl rfl (by kernel_rfl), rfl, ⟨_, (c.ev 1 rfl rfl), (hS.at (st2.ext.trans c.J.ext))⟩⟩),
       Ob.moveT (t0 := 7) rfl rfl rfl rfl rfl (.inr rfl) (fun _ _ _ _ c => ⟨c.rown 2 rfl rfl (by kernel_rfl), rfl⟩),
     trivial⟩ ?_
  intro a4 w4 τ4 st4 f4
  obtain ⟨b4x2, e2⟩ : ∃ b, get a4 2 = b := ⟨_, rfl⟩
  have r0 : ownR EditE 42 (([]) ++ xs) (τ4 0) b4x2 w4 := f4.rown 3 rfl rfl e2
  clear f4
  show Code.wp _ _ _ a4 w4
  refine wp_ret ?_
  repeat (first | with_reducible refine then_ret ?_ | with_reducible refine block_ret ?_)
  refine ret1 (fn := Try.f38) rfl st4.defers e2 ?_
  replace r0 := r0.cast (show xs = _ from by rfl)
  exact ⟨_, rfl, st4.ext0, r0.1, fun g_ h_ => (st4.bnd _ g_ (r0.2 g_ h_)).1⟩

set_option maxRecDepth 100000 in
theorem order_c (v : Value) (xs : List (Int × Int)) (w : World) (hS : SlT SpanE w v xs) (hbig : xs.length ≤ 1000000000000) : Calls Try.prog 19 #[v] w (fun e w' => ∃ v', e = .returned v' ∧ Ext none' w w' ∧ NewT SpanE 33 w w' v' (ordF xs)) := by
  refine enter (n := 81) Try.func19 rfl rfl (Nat.le_of_ble_eq_true rfl) ?_
  intro a0 τ0 ha st0
  have e0 : get a0 0 = v := ha 0 _ rfl
  clear ha
  have hle := hS.le
  refine wp_seq ?_
  refine region_St (bf := [0]) (sp := [
      (det (Nw w) 2 (.slice none 0 0))])
    [] mixed st0 (by kernel_rfl) trivial
    ⟨Ob.det rfl rfl rfl (fun _ a_ _ _ c => r_assign rfl rfl),
     trivial⟩ ?_
  intro a1 w1 τ1 st1 f1
  replace e0 := f1.old e0 (by kernel_rfl)
  have e2 : get a1 2 = (.slice none 0 0) := f1.v 0 rfl
  clear f1
  show Code.wp _ _ _ a1 w1
  refine wp_seq ?_
  refine region_St (bf := [0, 1, 3]) (sp := [
      (det (Nw w) 10 v),
        (own SpanE 33 (Nw w) 2 11 (xs)),
        (own SpanE 33 (Nw w) 2 3 (xs))])
    [] mixed st1 (by kernel_rfl) trivial
    ⟨Ob.det rfl rfl rfl (fun _ a_ _ _ c => r_move rfl (c.eo e0 (by kernel_rfl))),
       Ob.callOwn rfl rfl rfl (fun _ a_ _ _ c => ⟨_, _, (e_call1 rfl rfl Try.call24 (c.ev 0 rfl rfl)), selClone_c v xs _ (hS.at (st1.ext.trans c.J.ext)) (by omega)⟩),
       Ob.moveT (t0 := 11) rfl rfl rfl rfl rfl (.inr rfl) (fun _ _ _ _ c => ⟨c.rown 1 rfl rfl (by kernel_rfl), rfl⟩),
     trivial⟩ ?_
  intro a2 w2 τ2 st2 f2
  obtain ⟨b2x3, e3⟩ : ∃ b, get a2 3 = b := ⟨_, rfl⟩
  replace e2 := f2.old e2 (by kernel_rfl)
  have r2 : ownR SpanE 33 (xs) (τ2 2) b2x3 w2 := f2.rown 2 rfl rfl e3
  clear f2
  show Code.wp _ _ _ a2 w2
  refine wp_seq ?_
  refine region_St (bf := [0, 1]) (sp := [
      (det (Nw w) 12 b2x3),
        (own SpanE 33 (Nw w) 2 3 (isort ltSel xs))])
    [(Ini.any (Nw w)), (Ini.any (Nw w)), (iown SpanE 33 (Nw w) b2x3 (xs))] mixed st2 (by kernel_rfl) ⟨trivial, trivial, r2, trivial⟩
    ⟨Ob.det rfl rfl rfl (fun _ a_ _ _ c => r_move rfl (c.eo e3 (by kernel_rfl))),
       Ob.callIn rfl rfl rfl (by decide) (fun _ a_ _ _ c => ⟨_, _, (e_call2 rfl rfl Try.call25 (c.ev 0 rfl rfl) rfl), c.old e3 (by kernel_rfl), c.iown 2 rfl rfl (by kernel_rfl), fun ho_ => selSort_c b2x3 xs _ ho_ (by omega)⟩),
     trivial⟩ ?_
  intro a3 w3 τ3 st3 f3
  replace e2 := f3.old e2 (by kernel_rfl)
  replace e3 := f3.old e3 (by kernel_rfl)
  have r2 : ownR SpanE 33 (isort ltSel xs) (τ3 2) b2x3 w3 := f3.rown 1 rfl rfl e3
  clear f3
  have hil := isort_length (lt := ltSel) xs
  show Code.wp _ _ _ a3 w3
  refine wp_seq ?_
  refine region_St (bf := [0]) (sp := [
      (det (Nw w) 4 (.slice none 0 0))])
    [(Ini.any (Nw w)), (Ini.any (Nw w)), (iown SpanE 33 (Nw w) b2x3 (isort ltSel xs))] mixed st3 (by kernel_rfl) ⟨trivial, trivial, r2, trivial⟩
    ⟨Ob.det rfl rfl rfl (fun _ a_ _ _ c => r_assign rfl rfl),
     trivial⟩ ?_
  intro a4 w4 τ4 st4 f4
  replace e2 := f4.old e2 (by kernel_rfl)
  replace e3 := f4.old e3 (by kernel_rfl)
  have e4 : get a4 4 = (.slice none 0 0) := f4.v 0 rfl
  replace r2 : ownR SpanE 33 (isort ltSel xs) (τ4 2) b2x3 w4 := f4.iown 2 rfl rfl
  clear f4
  show Code.wp _ _ _ a4 w4
  refine wp_seq ?_
  refine wp_seq ?_
  refine region_St (bf := [0, 1, 0]) (sp := [
      (det (Nw w) 14 b2x3),
        (det (Nw w) 15 (.int .i64 (((isort ltSel xs).length : Int)))),
        (det (Nw w) 16 (.int .i64 (0)))])
    [(Ini.any (Nw w)), (Ini.any (Nw w)), (iown SpanE 33 (Nw w) b2x3 (isort ltSel xs))] mixed st4 (by kernel_rfl) ⟨trivial, trivial, r2, trivial⟩
    ⟨Ob.det rfl rfl rfl (fun _ a_ _ _ c => r_move rfl (c.eo e3 (by kernel_rfl))),
       Ob.det rfl rfl rfl (fun _ a_ _ _ c => r_len rfl Try.underlying22 (c.ev 0 rfl rfl) r2.isSl),
       Ob.det rfl rfl rfl (fun _ a_ _ _ c => r_move rfl rfl),
     trivial⟩ ?_
  intro a5 w5 τ5 st5 f5
  replace e2 := f5.old e2 (by kernel_rfl)
  replace e4 := f5.old e4 (by kernel_rfl)
  have e14 : get a5 14 = b2x3 := f5.v 0 rfl
  have e15 : get a5 15 = (.int .i64 (((isort ltSel xs).length : Int))) := f5.v 1 rfl
  have e16 : get a5 16 = (.int .i64 (0)) := f5.v 2 rfl
  replace r2 : ownR SpanE 33 (isort ltSel xs) (τ5 2) b2x3 w5 := f5.iown 2 rfl rfl
  clear f5
  show Code.wp _ _ _ a5 w5
  refine wp_block ?_
  refine wp_loop (fun a_ w_ => ∃ (i : Nat) (o : Value) (τ : Nat → Foot), (i ≤ (isort ltSel xs).length) ∧
        St (Nw w) w 81 a_ w_ τ ∧
        get a_ 4 = o ∧
        get a_ 16 = (.int .i64 ((i : Int))) ∧
        get a_ 2 = (.slice none 0 0) ∧
        get a_ 14 = b2x3 ∧
        get a_ 15 = (.int .i64 (((isort ltSel xs).length : Int))) ∧
        ownR SpanE 33 (foldO ((isort ltSel xs).take i)) (τ 0) o w_ ∧
        ownR SpanE 33 (isort ltSel xs) (τ 2) b2x3 w_) (fun a_ _ => (isort ltSel xs).length - (intOf (get a_ 16)).toNat) ?_ ?_
  · refine ⟨0, (.slice none 0 0), τ5, ?_, st5, e4, (e16.trans (int_eq (by omega))), e2, e14, e15, ?_, r2⟩
    · omega
    · exact ownR.nil _ _ _ _
  intro a6 w6 hI
  obtain ⟨i, o, τ6, q0, st6, e4, e16, e2, e14, e15, r0, r2⟩ := hI
  have hjl := foldO_take (xs := isort ltSel xs) (k := i)
  have m16 := e16
  refine wp_seq ?_
  refine region_St (bf := [0]) (sp := [
      (det (Nw w) 17 (.bool (decide ((i : Int) < ((isort ltSel xs).length : Int)))))])
    [(iown SpanE 33 (Nw w) o (foldO ((isort ltSel xs).take i))), (Ini.any (Nw w)), (iown SpanE 33 (Nw w) b2x3 (isort ltSel xs))] mixed st6 (by kernel_rfl) ⟨r0, trivial, r2, trivial⟩
    ⟨Ob.det rfl rfl rfl (fun _ a_ _ _ c => r_lss rfl (c.eo e16 (by kernel_rfl)) (c.eo e15 (by kernel_rfl))),
     trivial⟩ ?_
  intro a7 w7 τ7 st7 f7
  replace e2 := f7.old e2 (by kernel_rfl)
  replace e4 := f7.old e4 (by kernel_rfl)
  replace e14 := f7.old e14 (by kernel_rfl)
  replace e15 := f7.old e15 (by kernel_rfl)
  replace e16 := f7.old e16 (by kernel_rfl)
  have e17 : get a7 17 = (.bool (decide ((i : Int) < ((isort ltSel xs).length : Int)))) := f7.v 0 rfl
  replace r0 : ownR SpanE 33 (foldO ((isort ltSel xs).take i)) (τ7 0) o w7 := f7.iown 0 rfl rfl
  replace r2 : ownR SpanE 33 (isort ltSel xs) (τ7 2) b2x3 w7 := f7.iown 2 rfl rfl
  clear f7
  show Code.wp _ _ _ a7 w7
  refine wp_seq ?_
  refine wp_cond_split (t := decide ((i : Int) < ((isort ltSel xs).length : Int))) e17 (fun hc1 => ?_) (fun hc1 => ?_)
  · try simp only [Bool.and_eq_true, Bool.or_eq_true, decide_eq_true_eq, decide_eq_false_iff_not, Bool.not_eq_true', Bool.and_eq_false_iff, Bool.or_eq_false_iff, Bool.not_eq_false', Int.not_lt, Int.not_le, beq_iff_eq, selB] at hc1
    refine wp_skip ?_
    show Code.wp _ _ _ a7 w7
    refine wp_seq ?_
    refine wp_block ?_
    refine wp_seq ?_
    refine region_St (bf := [0, 1, 0, 7]) (sp := [
        (det (Nw w) 18 (.pointer (some ((ptrOf b2x3).add (((i : Int) : Int).toNat * 2))))),
            (det (Nw w) 19 (.agg #[(.int .i64 ((nth (isort ltSel xs) ((i : Int))).1)), (.int .i64 ((nth (isort ltSel xs) ((i : Int))).2))])),
            (box 33 (Nw w) 3 6 [(.int .i64 (0)), (.int .i64 (0))]),
            (box 33 (Nw w) 3 6 [(.int .i64 ((nth (isort ltSel xs) ((i : Int))).1)), (.int .i64 ((nth (isort ltSel xs) ((i : Int))).2))])])
      [(iown SpanE 33 (Nw w) o (foldO ((isort ltSel xs).take i))), (Ini.any (Nw w)), (iown SpanE 33 (Nw w) b2x3 (isort ltSel xs))] mixed st7 (by kernel_rfl) ⟨r0, trivial, r2, trivial⟩
      ⟨Ob.det rfl rfl rfl (fun _ a_ _ _ c => r_indexAddr rfl Try.underlying22 Try.sizeOf33 (c.eo e14 (by kernel_rfl)) r2.isSl (c.eo e16 (by kernel_rfl)) (by omega) (by omega)),
           Ob.det rfl rfl rfl (fun _ a_ _ _ c => r_loadN (vs := [(.int .i64 ((nth (isort ltSel xs) ((i : Int))).1)), (.int .i64 ((nth (isort ltSel xs) ((i : Int))).2))]) rfl Try.isAgg33 Try.sizeOf33 (c.ev 0 rfl rfl) rfl (fun _ _ hj => ((c.iown 2 rfl rfl (by kernel_rfl)).1.sl).elem (nth_some (by omega) (by omega)) hj)),
           Ob.alloc rfl rfl rfl rfl Try.zeroValue33 rfl,
           Ob.storeBox (off := 0) (v := (.agg #[(.int .i64 ((nth (isort ltSel xs) ((i : Int))).1)), (.int .i64 ((nth (isort ltSel xs) ((i : Int))).2))])) rfl rfl rfl rfl Try.sizeOf33 (Nat.le_of_ble_eq_true rfl) (by simp [Value.cells, Value.oneCell']) rfl (fun _ _ _ _ c => ⟨c.rbox 2 rfl rfl (by kernel_rfl), (c.rbox 2 rfl rfl (by kernel_rfl)).ptr, (c.ev 1 rfl rfl)⟩),
       trivial⟩ ?_
    intro a8 w8 τ8 st8 f8
    obtain ⟨b8x6, e6⟩ : ∃ b, get a8 6 = b := ⟨_, rfl⟩
    replace e2 := f8.old e2 (by kernel_rfl)
    replace e4 := f8.old e4 (by kernel_rfl)
    replace e14 := f8.old e14 (by kernel_rfl)
    replace e15 := f8.old e15 (by kernel_rfl)
    replace e16 := f8.old e16 (by kernel_rfl)
    replace e17 := f8.old e17 (by kernel_rfl)
    replace r0 : ownR SpanE 33 (foldO ((isort ltSel xs).take i)) (τ8 0) o w8 := f8.iown 0 rfl rfl
    replace r2 : ownR SpanE 33 (isort ltSel xs) (τ8 2) b2x3 w8 := f8.iown 2 rfl rfl
    have r3 : boxR 33 [(.int .i64 ((nth (isort ltSel xs) ((i : Int))).1)), (.int .i64 ((nth (isort ltSel xs) ((i : Int))).2))] (τ8 3) b8x6 w8 := f8.rbox 3 rfl rfl e6
    clear f8
    show Code.wp _ _ _ a8 w8
    refine wp_seq ?_
    refine region_St (bf := [0, 1, 3, 7]) (sp := [
        (det (Nw w) 20 o),
            (det (Nw w) 21 (.int .i64 (((foldO ((isort ltSel xs).take i)).length : Int)))),
            (det (Nw w) 22 (.int .i64 (((foldO ((isort ltSel xs).take i)).length : Int) - 1))),
            (det (Nw w) 7 (.int .i64 (((foldO ((isort ltSel xs).take i)).length : Int) - 1)))])
      [(iown SpanE 33 (Nw w) o (foldO ((isort ltSel xs).take i))), (Ini.any (Nw w)), (iown SpanE 33 (Nw w) b2x3 (isort ltSel xs)), (ibox 33 (Nw w) b8x6 [(.int .i64 ((nth (isort ltSel xs) ((i : Int))).1)), (.int .i64 ((nth (isort ltSel xs) ((i : Int))).2))])] mixed st8 (by kernel_rfl) ⟨r0, trivial, r2, r3, trivial⟩
      ⟨Ob.det rfl rfl rfl (fun _ a_ _ _ c => r_move rfl (c.eo e4 (by kernel_rfl))),
           Ob.det rfl rfl rfl (fun _ a_ _ _ c => r_len rfl Try.underlying22 (c.ev 0 rfl rfl) r0.isSl),
           Ob.det rfl rfl rfl (fun _ a_ _ _ c => r_sub rfl (c.ev 1 rfl rfl) rfl (by omega)),
           Ob.det rfl rfl rfl (fun _ a_ _ _ c => r_assign rfl (c.ev 2 rfl rfl)),
       trivial⟩ ?_
    intro a9 w9 τ9 st9 f9
    replace e2 := f9.old e2 (by kernel_rfl)
    replace e4 := f9.old e4 (by kernel_rfl)
    replace e6 := f9.old e6 (by kernel_rfl)
    have e7 : get a9 7 = (.int .i64 (((foldO ((isort ltSel xs).take i)).length : Int) - 1)) := f9.v 3 rfl
    replace e14 := f9.old e14 (by kernel_rfl)
    replace e15 := f9.old e15 (by kernel_rfl)
    replace e16 := f9.old e16 (by kernel_rfl)
    replace e17 := f9.old e17 (by kernel_rfl)
    replace r0 : ownR SpanE 33 (foldO ((isort ltSel xs).take i)) (τ9 0) o w9 := f9.iown 0 rfl rfl
    replace r2 : ownR SpanE 33 (isort ltSel xs) (τ9 2) b2x3 w9 := f9.iown 2 rfl rfl
    replace r3 : boxR 33 [(.int .i64 ((nth (isort ltSel xs) ((i : Int))).1)), (.int .i64 ((nth (isort ltSel xs) ((i : Int))).2))] (τ9 3) b8x6 w9 := f9.ibox 3 rfl rfl
    clear f9
    show Code.wp _ _ _ a9 w9
    refine wp_seq ?_
    refine wp_seq ?_
    refine region_St (bf := [0, 1, 3, 7, 7, 31, 63, 127, 7, 511, 1023, 2047, 4095]) (sp := [
        (det (Nw w) 23 (.int .i64 (((foldO ((isort ltSel xs).take i)).length : Int) - 1))),
            (det (Nw w) 24 (.bool (decide (((foldO ((isort ltSel xs).take i)).length : Int) - 1 < 0)))),
            (det (Nw w) 25 (.bool (decide (((foldO ((isort ltSel xs).take i)).length : Int) - 1 < 0)))),
            (gdet (Nw w) 26 ((decide (((foldO ((isort ltSel xs).take i)).length : Int) - 1 < 0)) = false) o),
            (gdet (Nw w) 27 ((decide (((foldO ((isort ltSel xs).take i)).length : Int) - 1 < 0)) = false) (.int .i64 (((foldO ((isort ltSel xs).take i)).length : Int) - 1))),
            (gdet (Nw w) 28 ((decide (((foldO ((isort ltSel xs).take i)).length : Int) - 1 < 0)) = false) (.pointer (some ((ptrOf o).add ((((foldO ((isort ltSel xs).take i)).length : Int) - 1 : Int).toNat * 2))))),
            (gdet (Nw w) 29 ((decide (((foldO ((isort ltSel xs).take i)).length : Int) - 1 < 0)) = false) (.agg #[(.int .i64 ((nth (foldO ((isort ltSel xs).take i)) (((foldO ((isort ltSel xs).take i)).length : Int) - 1)).1)), (.int .i64 ((nth (foldO ((isort ltSel xs).take i)) (((foldO ((isort ltSel xs).take i)).length : Int) - 1)).2))])),
            (gdet (Nw w) 30 ((decide (((foldO ((isort ltSel xs).take i)).length : Int) - 1 < 0)) = false) (.agg #[(.int .i64 ((sspan (nth (foldO ((isort ltSel xs).take i)) (((foldO ((isort ltSel xs).take i)).length : Int) - 1))).1)), (.int .i64 ((sspan (nth (foldO ((isort ltSel xs).take i)) (((foldO ((isort ltSel xs).take i)).length : Int) - 1))).2))])),
            (gdet (Nw w) 31 ((decide (((foldO ((isort ltSel xs).take i)).length : Int) - 1 < 0)) = false) (.agg #[(.int .i64 ((nth (isort ltSel xs) ((i : Int))).1)), (.int .i64 ((nth (isort ltSel xs) ((i : Int))).2))])),
            (gdet (Nw w) 32 ((decide (((foldO ((isort ltSel xs).take i)).length : Int) - 1 < 0)) = false) (.agg #[(.int .i64 ((sspan (nth (isort ltSel xs) ((i : Int)))).1)), (.int .i64 ((sspan (nth (isort ltSel xs) ((i : Int)))).2))])),
            (gdet (Nw w) 33 ((decide (((foldO ((isort ltSel xs).take i)).length : Int) - 1 < 0)) = false) (.bool (touchB (sspan (nth (foldO ((isort ltSel xs).take i)) (((foldO ((isort ltSel xs).take i)).length : Int) - 1))) (sspan (nth (isort ltSel xs) ((i : Int))))))),
            (gdet (Nw w) 34 ((decide (((foldO ((isort ltSel xs).take i)).length : Int) - 1 < 0)) = false) (.bool (!(touchB (sspan (nth (foldO ((isort ltSel xs).take i)) (((foldO ((isort ltSel xs).take i)).length : Int) - 1))) (sspan (nth (isort ltSel xs) ((i : Int)))))))),
            (det (Nw w) 35 (.bool ((decide (((foldO ((isort ltSel xs).take i)).length : Int) - 1 < 0)) || (!(touchB (sspan (nth (foldO ((isort ltSel xs).take i)) (((foldO ((isort ltSel xs).take i)).length : Int) - 1))) (sspan (nth (isort ltSel xs) ((i : Int)))))))))])
      [(iown SpanE 33 (Nw w) o (foldO ((isort ltSel xs).take i))), (Ini.any (Nw w)), (iown SpanE 33 (Nw w) b2x3 (isort ltSel xs)), (ibox 33 (Nw w) b8x6 [(.int .i64 ((nth (isort ltSel xs) ((i : Int))).1)), (.int .i64 ((nth (isort ltSel xs) ((i : Int))).2))])] mixed st9 (by kernel_rfl) ⟨r0, trivial, r2, r3, trivial⟩
      ⟨Ob.det rfl rfl rfl (fun _ a_ _ _ c => r_move rfl (c.eo e7 (by kernel_rfl))),
           Ob.det rfl rfl rfl (fun _ a_ _ _ c => r_lss rfl (c.ev 0 rfl rfl) rfl),
           Ob.det rfl rfl rfl (fun _ a_ _ _ c => r_move rfl (c.ev 1 rfl rfl)),
           Ob.gdet rfl rfl rfl rfl (gi := 2) (tg := 25) rfl rfl Iff.rfl (fun _ a_ _ _ c hpc => r_move rfl (c.eo e4 (by kernel_rfl))),
           Ob.gdet rfl rfl rfl rfl (gi := 2) (tg := 25) rfl rfl Iff.rfl (fun _ a_ _ _ c hpc => r_move rfl (c.eo e7 (by kernel_rfl))),
           Ob.gdet rfl rfl rfl rfl (gi := 2) (tg := 25) rfl rfl Iff.rfl (fun _ a_ _ _ c hpc => r_indexAddr rfl Try.underlying22 Try.sizeOf33 (c.eg 3 rfl rfl hpc) r0.isSl (c.eg 4 rfl rfl hpc) (by have hq0 := hpc; (try simp only [Bool.and_eq_true, Bool.or_eq_true, decide_eq_true_eq, decide_eq_false_iff_not, Bool.not_eq_true', Bool.and_eq_false_iff, Bool.or_eq_false_iff, Bool.not_eq_false', Int.not_lt, Int.not_le, beq_iff_eq, selB] at hq0); omega) (by have hq0 := hpc; (try simp only [Bool.and_eq_true, Bool.or_eq_true, decide_eq_true_eq, decide_eq_false_iff_not, Bool.not_eq_true', Bool.and_eq_false_iff, Bool.or_eq_false_iff, Bool.not_eq_false', Int.not_lt, Int.not_le, beq_iff_eq, selB] at hq0); omega)),
           Ob.gdet rfl rfl rfl rfl (gi := 2) (tg := 25) rfl rfl Iff.rfl (fun _ a_ _ _ c hpc => r_loadN (vs := [(.int .i64 ((nth (foldO ((isort ltSel xs).take i)) (((foldO ((isort ltSel xs).take i)).length : Int) - 1)).1)), (.int .i64 ((nth (foldO ((isort ltSel xs).take i)) (((foldO ((isort ltSel xs).take i)).length : Int) - 1)).2))]) rfl Try.isAgg33 Try.sizeOf33 (c.eg 5 rfl rfl hpc) rfl (fun _ _ hj => ((c.iown 0 rfl rfl (by kernel_rfl)).1.sl).elem (nth_some (by have hq0 := hpc; (try simp only [Bool.and_eq_true, Bool.or_eq_true, decide_eq_true_eq, decide_eq_false_iff_not, Bool.not_eq_true', Bool.and_eq_false_iff, Bool.or_eq_false_iff, Bool.not_eq_false', Int.not_lt, Int.not_le, beq_iff_eq, selB] at hq0); omega) (by have hq0 := hpc; (try simp only [Bool.and_eq_true, Bool.or_eq_true, decide_eq_true_eq, decide_eq_false_iff_not, Bool.not_eq_true', Bool.and_eq_false_iff, Bool.or_eq_false_iff, Bool.not_eq_false', Int.not_lt, Int.not_le, beq_iff_eq, selB] at hq0); omega)) hj)),
           Ob.gcall rfl rfl rfl rfl (gi := 2) (tg := 25) rfl rfl Iff.rfl (fun _ a_ _ _ c hpc => ⟨_, _, (e_call1 rfl rfl Try.call15 (c.eg 6 rfl rfl hpc)), selSpan_c (nth (foldO ((isort ltSel xs).take i)) (((foldO ((isort ltSel xs).take i)).length : Int) - 1)) _⟩),
           Ob.gdet rfl rfl rfl rfl (gi := 2) (tg := 25) rfl rfl Iff.rfl (fun _ a_ _ _ c hpc => r_loadN (vs := [(.int .i64 ((nth (isort ltSel xs) ((i : Int))).1)), (.int .i64 ((nth (isort ltSel xs) ((i : Int))).2))]) rfl Try.isAgg33 Try.sizeOf33 ((c.eo e6 (by kernel_rfl)).trans r3.ptr) rfl (fun _ _ hj => (c.ibox 3 rfl rfl (by kernel_rfl)).cell hj)),
           Ob.gcall rfl rfl rfl rfl (gi := 2) (tg := 25) rfl rfl Iff.rfl (fun _ a_ _ _ c hpc => ⟨_, _, (e_call1 rfl rfl Try.call15 (c.eg 8 rfl rfl hpc)), selSpan_c (nth (isort ltSel xs) ((i : Int))) _⟩),
           Ob.gcall rfl rfl rfl rfl (gi := 2) (tg := 25) rfl rfl Iff.rfl (fun _ a_ _ _ c hpc => ⟨_, _, (e_call2 rfl rfl Try.call29 (c.eg 7 rfl rfl hpc) (c.eg 9 rfl rfl hpc)), touch_c (sspan (nth (foldO ((isort ltSel xs).take i)) (((foldO ((isort ltSel xs).take i)).length : Int) - 1))) (sspan (nth (isort ltSel xs) ((i : Int)))) _⟩),
           Ob.gdet rfl rfl rfl rfl (gi := 2) (tg := 25) rfl rfl Iff.rfl (fun _ a_ _ _ c hpc => r_not rfl (c.eg 10 rfl rfl hpc)),
           Ob.det rfl rfl rfl (fun _ a_ _ _ c => r_or rfl (c.ev 2 rfl rfl) (fun h => (c.eg 11 rfl rfl h))),
       trivial⟩ ?_
    intro a10 w10 τ10 st10 f10
    replace e2 := f10.old e2 (by kernel_rfl)
    replace e4 := f10.old e4 (by kernel_rfl)
    replace e6 := f10.old e6 (by kernel_rfl)
    replace e7 := f10.old e7 (by kernel_rfl)
    replace e14 := f10.old e14 (by kernel_rfl)
    replace e15 := f10.old e15 (by kernel_rfl)
    replace e16 := f10.old e16 (by kernel_rfl)
    replace e17 := f10.old e17 (by kernel_rfl)
    have e35 : get a10 35 = (.bool ((decide (((foldO ((isort ltSel xs).take i)).length : Int) - 1 < 0)) || (!(touchB (sspan (nth (foldO ((isort ltSel xs).take i)) (((foldO ((isort ltSel xs).take i)).length : Int) - 1))) (sspan (nth (isort ltSel xs) ((i : Int)))))))) := f10.v 12 rfl
    replace r0 : ownR SpanE 33 (foldO ((isort ltSel xs).take i)) (τ10 0) o w10 := f10.iown 0 rfl rfl
    replace r2 : ownR SpanE 33 (isort ltSel xs) (τ10 2) b2x3 w10 := f10.iown 2 rfl rfl
    replace r3 : boxR 33 [(.int .i64 ((nth (isort ltSel xs) ((i : Int))).1)), (.int .i64 ((nth (isort ltSel xs) ((i : Int))).2))] (τ10 3) b8x6 w10 := f10.ibox 3 rfl rfl
    clear f10
    show Code.wp _ _ _ a10 w10
    refine wp_cond_split (t := (decide (((foldO ((isort ltSel xs).take i)).length : Int) - 1 < 0)) || (!(touchB (sspan (nth (foldO ((isort ltSel xs).take i)) (((foldO ((isort ltSel xs).take i)).length : Int) - 1))) (sspan (nth (isort ltSel xs) ((i : Int))))))) e35 (fun hc2 => ?_) (fun hc2 => ?_)
    · have hd2 := hc2; try simp only [Bool.and_eq_true, Bool.or_eq_true, decide_eq_true_eq, decide_eq_false_iff_not, Bool.not_eq_true', Bool.and_eq_false_iff, Bool.or_eq_false_iff, Bool.not_eq_false', Int.not_lt, Int.not_le, beq_iff_eq, selB] at hd2
      refine wp_seq ?_
      refine region_St (bf := [0, 0, 2, 7, 15]) (sp := [
          (det (Nw w) 36 o),
                (det (Nw w) 37 (.agg #[(.int .i64 ((nth (isort ltSel xs) ((i : Int))).1)), (.int .i64 ((nth (isort ltSel xs) ((i : Int))).2))])),
                (own SpanE 33 (Nw w) 4 38 ([(nth (isort ltSel xs) ((i : Int)))])),
                (own SpanE 33 (Nw w) 0 39 ((foldO ((isort ltSel xs).take i)) ++ ([(nth (isort ltSel xs) ((i : Int)))]))),
                (own SpanE 33 (Nw w) 0 4 ((foldO ((isort ltSel xs).take i)) ++ ([(nth (isort ltSel xs) ((i : Int)))])))])
        [(iown SpanE 33 (Nw w) o (foldO ((isort ltSel xs).take i))), (Ini.any (Nw w)), (iown SpanE 33 (Nw w) b2x3 (isort ltSel xs)), (ibox 33 (Nw w) b8x6 [(.int .i64 ((nth (isort ltSel xs) ((i : Int))).1)), (.int .i64 ((nth (isort ltSel xs) ((i : Int))).2))])] mixed st10 (by kernel_rfl) ⟨r0, trivial, r2, r3, trivial⟩
        ⟨Ob.det rfl rfl rfl (fun _ a_ _ _ c => r_move rfl (c.eo e4 (by kernel_rfl))),
               Ob.det rfl rfl rfl (fun _ a_ _ _ c => r_loadN (vs := [(.int .i64 ((nth (isort ltSel xs) ((i : Int))).1)), (.int .i64 ((nth (isort ltSel xs) ((i : Int))).2))]) rfl Try.isAgg33 Try.sizeOf33 ((c.eo e6 (by kernel_rfl)).trans r3.ptr) rfl (fun _ _ hj => (c.ibox 3 rfl rfl (by kernel_rfl)).cell hj)),
               Ob.buildSlice (cells := #[(.int .i64 ((nth (isort ltSel xs) ((i : Int))).1)), (.int .i64 ((nth (isort ltSel xs) ((i : Int))).2))]) rfl rfl rfl rfl Try.underlying22 Try.sizeOf33 Try.zeroValue33 rfl (by decide) (by decide) (fun _ a_ _ _ c => by simp only [List.map_toArray, List.map_cons, List.map_nil, (show a_.eval (.tmp 37) = (.agg #[(.int .i64 ((nth (isort ltSel xs) ((i : Int))).1)), (.int .i64 ((nth (isort ltSel xs) ((i : Int))).2))]) from (c.ev 1 rfl rfl))]; kernel_rfl) rfl,
               Ob.append (t0 := 4) rfl rfl rfl rfl Try.underlying22 (i := Try.t33) rfl rfl rfl rfl (by simp only [maxLen]; (try simp); omega) (by show _ * 16 ≤ _; (try simp); omega) (fun _ _ _ _ c => ⟨by rw [(show get _ 4 = o from c.old e4 (by kernel_rfl))]; exact c.iown 0 rfl rfl (by kernel_rfl), (c.ev 0 rfl rfl).trans (show o = get _ 4 from (c.old e4 (by kernel_rfl)).symm), ⟨_, rfl, (c.rown 2 rfl rfl (by kernel_rfl)).1.sl⟩⟩),
               Ob.moveT (t0 := 39) rfl rfl rfl rfl rfl (.inr rfl) (fun _ _ _ _ c => ⟨c.rown 3 rfl rfl (by kernel_rfl), rfl⟩),
         trivial⟩ ?_
      intro a11 w11 τ11 st11 f11
      obtain ⟨b11x38, e38⟩ : ∃ b, get a11 38 = b := ⟨_, rfl⟩
      obtain ⟨b11x4, e4⟩ : ∃ b, get a11 4 = b := ⟨_, rfl⟩
      replace e2 := f11.old e2 (by kernel_rfl)
      replace e6 := f11.old e6 (by kernel_rfl)
      replace e7 := f11.old e7 (by kernel_rfl)
      replace e14 := f11.old e14 (by kernel_rfl)
      replace e15 := f11.old e15 (by kernel_rfl)
      replace e16 := f11.old e16 (by kernel_rfl)
      replace e17 := f11.old e17 (by kernel_rfl)
      replace e35 := f11.old e35 (by kernel_rfl)
      have r0 : ownR SpanE 33 ((foldO ((isort ltSel xs).take i)) ++ ([(nth (isort ltSel xs) ((i : Int)))])) (τ11 0) b11x4 w11 := f11.rown 4 rfl rfl e4
      replace r2 : ownR SpanE 33 (isort ltSel xs) (τ11 2) b2x3 w11 := f11.iown 2 rfl rfl
      replace r3 : boxR 33 [(.int .i64 ((nth (isort ltSel xs) ((i : Int))).1)), (.int .i64 ((nth (isort ltSel xs) ((i : Int))).2))] (τ11 3) b8x6 w11 := f11.ibox 3 rfl rfl
      have r4 : ownR SpanE 33 ([(nth (isort ltSel xs) ((i : Int)))]) (τ11 4) b11x38 w11 := f11.rown 2 rfl rfl e38
      clear f11
      show Code.wp _ _ _ a11 w11
      refine wp_exit ?_
      repeat (with_reducible refine then_exit ?_)
      refine exit_here ?_
      show Code.wp _ _ _ a11 w11
      refine region_St (bf := [0, 1]) (sp := [
          (det (Nw w) 79 (.int .i64 ((i : Int) + 1))),
                (det (Nw w) 16 (.int .i64 ((i : Int) + 1)))])
        [(iown SpanE 33 (Nw w) b11x4 ((foldO ((isort ltSel xs).take i)) ++ ([(nth (isort ltSel xs) ((i : Int)))]))), (Ini.any (Nw w)), (iown SpanE 33 (Nw w) b2x3 (isort ltSel xs)), (ibox 33 (Nw w) b8x6 [(.int .i64 ((nth (isort ltSel xs) ((i : Int))).1)), (.int .i64 ((nth (isort ltSel xs) ((i : Int))).2))]), (iown SpanE 33 (Nw w) b11x38 ([(nth (isort ltSel xs) ((i : Int)))]))] mixed st11 (by kernel_rfl) ⟨r0, trivial, r2, r3, r4, trivial⟩
        ⟨Ob.det rfl rfl rfl (fun _ a_ _ _ c => r_add rfl (c.eo e16 (by kernel_rfl)) rfl (by omega)),
               Ob.det rfl rfl rfl (fun _ a_ _ _ c => r_move rfl (c.ev 0 rfl rfl)),
         trivial⟩ ?_
      intro a12 w12 τ12 st12 f12
      replace e2 := f12.old e2 (by kernel_rfl)
      replace e4 := f12.old e4 (by kernel_rfl)
      replace e6 := f12.old e6 (by kernel_rfl)
      replace e7 := f12.old e7 (by kernel_rfl)
      replace e14 := f12.old e14 (by kernel_rfl)
      replace e15 := f12.old e15 (by kernel_rfl)
      have e16 : get a12 16 = (.int .i64 ((i : Int) + 1)) := f12.v 1 rfl
      replace e17 := f12.old e17 (by kernel_rfl)
      replace e35 := f12.old e35 (by kernel_rfl)
      replace r0 : ownR SpanE 33 ((foldO ((isort ltSel xs).take i)) ++ ([(nth (isort ltSel xs) ((i : Int)))])) (τ12 0) b11x4 w12 := f12.iown 0 rfl rfl
      replace r2 : ownR SpanE 33 (isort ltSel xs) (τ12 2) b2x3 w12 := f12.iown 2 rfl rfl
      replace r3 : boxR 33 [(.int .i64 ((nth (isort ltSel xs) ((i : Int))).1)), (.int .i64 ((nth (isort ltSel xs) ((i : Int))).2))] (τ12 3) b8x6 w12 := f12.ibox 3 rfl rfl
      replace r4 : ownR SpanE 33 ([(nth (isort ltSel xs) ((i : Int)))]) (τ12 4) b11x38 w12 := f12.iown 4 rfl rfl
      clear f12
      refine ⟨⟨i + 1, b11x4, τ12, ?_, st12, e4, (e16.trans (int_eq (by omega))), e2, e14, e15, ?_, r2⟩, ?_⟩
      · omega
      · exact r0.cast (by first | exact foldO_add (by omega) (by assumption) | exact foldO_back (by omega) (by assumption) (by assumption) | exact foldO_on (by omega) (by assumption) (by assumption))
      · simp only [m16, e16, intOf]; omega
    have hd2 := hc2; try simp only [Bool.and_eq_true, Bool.or_eq_true, decide_eq_true_eq, decide_eq_false_iff_not, Bool.not_eq_true', Bool.and_eq_false_iff, Bool.or_eq_false_iff, Bool.not_eq_false', Int.not_lt, Int.not_le, beq_iff_eq, selB] at hd2
    refine wp_skip ?_
    show Code.wp _ _ _ a10 w10
    refine wp_seq ?_
    refine region_St (bf := [0, 0, 3, 7, 15, 31, 0, 0, 192, 448, 991, 2015, 0, 6111, 14303, 32735, 14335, 131071]) (sp := [
        (det (Nw w) 40 o),
            (det (Nw w) 41 (.int .i64 (((foldO ((isort ltSel xs).take i)).length : Int) - 1))),
            (det (Nw w) 42 (.pointer (some ((ptrOf o).add ((((foldO ((isort ltSel xs).take i)).length : Int) - 1 : Int).toNat * 2))))),
            (det (Nw w) 43 (.agg #[(.int .i64 ((nth (foldO ((isort ltSel xs).take i)) (((foldO ((isort ltSel xs).take i)).length : Int) - 1)).1)), (.int .i64 ((nth (foldO ((isort ltSel xs).take i)) (((foldO ((isort ltSel xs).take i)).length : Int) - 1)).2))])),
            (det (Nw w) 44 (.agg #[(.int .i64 ((sspan (nth (foldO ((isort ltSel xs).take i)) (((foldO ((isort ltSel xs).take i)).length : Int) - 1))).1)), (.int .i64 ((sspan (nth (foldO ((isort ltSel xs).take i)) (((foldO ((isort ltSel xs).take i)).length : Int) - 1))).2))])),
            (det (Nw w) 45 (.int .i64 ((sspan (nth (foldO ((isort ltSel xs).take i)) (((foldO ((isort ltSel xs).take i)).length : Int) - 1))).1))),
            (det (Nw w) 46 o),
            (det (Nw w) 47 (.int .i64 (((foldO ((isort ltSel xs).take i)).length : Int) - 1))),
            (det (Nw w) 48 (.pointer (some ((ptrOf o).add ((((foldO ((isort ltSel xs).take i)).length : Int) - 1 : Int).toNat * 2))))),
            (det (Nw w) 49 (.agg #[(.int .i64 ((nth (foldO ((isort ltSel xs).take i)) (((foldO ((isort ltSel xs).take i)).length : Int) - 1)).1)), (.int .i64 ((nth (foldO ((isort ltSel xs).take i)) (((foldO ((isort ltSel xs).take i)).length : Int) - 1)).2))])),
            (det (Nw w) 50 (.agg #[(.int .i64 ((sspan (nth (foldO ((isort ltSel xs).take i)) (((foldO ((isort ltSel xs).take i)).length : Int) - 1))).1)), (.int .i64 ((sspan (nth (foldO ((isort ltSel xs).take i)) (((foldO ((isort ltSel xs).take i)).length : Int) - 1))).2))])),
            (det (Nw w) 51 (.int .i64 ((sspan (nth (foldO ((isort ltSel xs).take i)) (((foldO ((isort ltSel xs).take i)).length : Int) - 1))).2))),
            (det (Nw w) 52 (.agg #[(.int .i64 ((nth (isort ltSel xs) ((i : Int))).1)), (.int .i64 ((nth (isort ltSel xs) ((i : Int))).2))])),
            (det (Nw w) 53 (.agg #[(.int .i64 ((sspan (nth (isort ltSel xs) ((i : Int)))).1)), (.int .i64 ((sspan (nth (isort ltSel xs) ((i : Int)))).2))])),
            (det (Nw w) 54 (.int .i64 ((sspan (nth (isort ltSel xs) ((i : Int)))).2))),
            (det (Nw w) 55 (.int .i64 (max ((sspan (nth (foldO ((isort ltSel xs).take i)) (((foldO ((isort ltSel xs).take i)).length : Int) - 1))).2) ((sspan (nth (isort ltSel xs) ((i : Int)))).2)))),
            (det (Nw w) 8 (.int .i64 ((sspan (nth (foldO ((isort ltSel xs).take i)) (((foldO ((isort ltSel xs).take i)).length : Int) - 1))).1))),
            (det (Nw w) 9 (.int .i64 (max ((sspan (nth (foldO ((isort ltSel xs).take i)) (((foldO ((isort ltSel xs).take i)).length : Int) - 1))).2) ((sspan (nth (isort ltSel xs) ((i : Int)))).2))))])
      [(iown SpanE 33 (Nw w) o (foldO ((isort ltSel xs).take i))), (Ini.any (Nw w)), (iown SpanE 33 (Nw w) b2x3 (isort ltSel xs)), (ibox 33 (Nw w) b8x6 [(.int .i64 ((nth (isort ltSel xs) ((i : Int))).1)), (.int .i64 ((nth (isort ltSel xs) ((i : Int))).2))])] mixed st10 (by kernel_rfl) ⟨r0, trivial, r2, r3, trivial⟩
      ⟨Ob.det rfl rfl rfl (fun _ a_ _ _ c => r_move rfl (c.eo e4 (by kernel_rfl))),
           Ob.det rfl rfl rfl (fun _ a_ _ _ c => r_move rfl (c.eo e7 (by kernel_rfl))),
           Ob.det rfl rfl rfl (fun _ a_ _ _ c => r_indexAddr rfl Try.underlying22 Try.sizeOf33 (c.ev 0 rfl rfl) r0.isSl (c.ev 1 rfl rfl) (by omega) (by omega)),
           Ob.det rfl rfl rfl (fun _ a_ _ _ c => r_loadN (vs := [(.int .i64 ((nth (foldO ((isort ltSel xs).take i)) (((foldO ((isort ltSel xs).take i)).length : Int) - 1)).1)), (.int .i64 ((nth (foldO ((isort ltSel xs).take i)) (((foldO ((isort ltSel xs).take i)).length : Int) - 1)).2))]) rfl Try.isAgg33 Try.sizeOf33 (c.ev 2 rfl rfl) rfl (fun _ _ hj => ((c.iown 0 rfl rfl (by kernel_rfl)).1.sl).elem (nth_some (by omega) (by omega)) hj)),
           Ob.call rfl rfl rfl (fun _ a_ _ _ c => ⟨_, _, (e_call1 rfl rfl Try.call15 (c.ev 3 rfl rfl)), selSpan_c (nth (foldO ((isort ltSel xs).take i)) (((foldO ((isort ltSel xs).take i)).length : Int) - 1)) _⟩),
           Ob.det rfl rfl rfl (fun _ a_ _ _ c => r_field rfl Try.underlying39 rfl Try.isAgg3 (c.ev 4 rfl rfl) rfl),
           Ob.det rfl rfl rfl (fun _ a_ _ _ c => r_move rfl (c.eo e4 (by kernel_rfl))),
           Ob.det rfl rfl rfl (fun _ a_ _ _ c => r_move rfl (c.eo e7 (by kernel_rfl))),
           Ob.det rfl rfl rfl (fun _ a_ _ _ c => r_indexAddr rfl Try.underlying22 Try.sizeOf33 (c.ev 6 rfl rfl) r0.isSl (c.ev 7 rfl rfl) (by omega) (by omega)),
           Ob.det rfl rfl rfl (fun _ a_ _ _ c => r_loadN (vs := [(.int .i64 ((nth (foldO ((isort ltSel xs).take i)) (((foldO ((isort ltSel xs).take i)).length : Int) - 1)).1)), (.int .i64 ((nth (foldO ((isort ltSel xs).take i)) (((foldO ((isort ltSel xs).take i)).length : Int) - 1)).2))]) rfl Try.isAgg33 Try.sizeOf33 (c.ev 8 rfl rfl) rfl (fun _ _ hj => ((c.iown 0 rfl rfl (by kernel_rfl)).1.sl).elem (nth_some (by omega) (by omega)) hj)),
           Ob.call rfl rfl rfl (fun _ a_ _ _ c => ⟨_, _, (e_call1 rfl rfl Try.call15 (c.ev 9 rfl rfl)), selSpan_c (nth (foldO ((isort ltSel xs).take i)) (((foldO ((isort ltSel xs).take i)).length : Int) - 1)) _⟩),
           Ob.det rfl rfl rfl (fun _ a_ _ _ c => r_field rfl Try.underlying39 rfl Try.isAgg3 (c.ev 10 rfl rfl) rfl),
           Ob.det rfl rfl rfl (fun _ a_ _ _ c => r_loadN (vs := [(.int .i64 ((nth (isort ltSel xs) ((i : Int))).1)), (.int .i64 ((nth (isort ltSel xs) ((i : Int))).2))]) rfl Try.isAgg33 Try.sizeOf33 ((c.eo e6 (by kernel_rfl)).trans r3.ptr) rfl (fun _ _ hj => (c.ibox 3 rfl rfl (by kernel_rfl)).cell hj)),
           Ob.call rfl rfl rfl (fun _ a_ _ _ c => ⟨_, _, (e_call1 rfl rfl Try.call15 (c.ev 12 rfl rfl)), selSpan_c (nth (isort ltSel xs) ((i : Int))) _⟩),
           Ob.det rfl rfl rfl (fun _ a_ _ _ c => r_field rfl Try.underlying39 rfl Try.isAgg3 (c.ev 13 rfl rfl) rfl),
           Ob.det rfl rfl rfl (fun _ a_ _ _ c => r_max rfl (c.ev 11 rfl rfl) (c.ev 14 rfl rfl)),
           Ob.det rfl rfl rfl (fun _ a_ _ _ c => r_assign rfl (c.ev 5 rfl rfl)),
           Ob.det rfl rfl rfl (fun _ a_ _ _ c => r_assign rfl (c.ev 15 rfl rfl)),
       trivial⟩ ?_
    intro a13 w13 τ13 st13 f13
    replace e2 := f13.old e2 (by kernel_rfl)
    replace e4 := f13.old e4 (by kernel_rfl)
    replace e6 := f13.old e6 (by kernel_rfl)
    replace e7 := f13.old e7 (by kernel_rfl)
    have e8 : get a13 8 = (.int .i64 ((sspan (nth (foldO ((isort ltSel xs).take i)) (((foldO ((isort ltSel xs).take i)).length : Int) - 1))).1)) := f13.v 16 rfl
    have e9 : get a13 9 = (.int .i64 (max ((sspan (nth (foldO ((isort ltSel xs).take i)) (((foldO ((isort ltSel xs).take i)).length : Int) - 1))).2) ((sspan (nth (isort ltSel xs) ((i : Int)))).2))) := f13.v 17 rfl
    replace e14 := f13.old e14 (by kernel_rfl)
    replace e15 := f13.old e15 (by kernel_rfl)
    replace e16 := f13.old e16 (by kernel_rfl)
    replace e17 := f13.old e17 (by kernel_rfl)
    replace e35 := f13.old e35 (by kernel_rfl)
    replace r0 : ownR SpanE 33 (foldO ((isort ltSel xs).take i)) (τ13 0) o w13 := f13.iown 0 rfl rfl
    replace r2 : ownR SpanE 33 (isort ltSel xs) (τ13 2) b2x3 w13 := f13.iown 2 rfl rfl
    replace r3 : boxR 33 [(.int .i64 ((nth (isort ltSel xs) ((i : Int))).1)), (.int .i64 ((nth (isort ltSel xs) ((i : Int))).2))] (τ13 3) b8x6 w13 := f13.ibox 3 rfl rfl
    clear f13
    show Code.wp _ _ _ a13 w13
    refine wp_seq ?_
    refine region_St (bf := [0, 0, 3, 7, 15, 0, 0, 96, 224, 480, 1023]) (sp := [
        (det (Nw w) 56 o),
            (det (Nw w) 57 (.int .i64 (((foldO ((isort ltSel xs).take i)).length : Int) - 1))),
            (det (Nw w) 58 (.pointer (some ((ptrOf o).add ((((foldO ((isort ltSel xs).take i)).length : Int) - 1 : Int).toNat * 2))))),
            (det (Nw w) 59 (.pointer (some (((ptrOf o).add ((((foldO ((isort ltSel xs).take i)).length : Int) - 1 : Int).toNat * 2)).add 1)))),
            (det (Nw w) 60 (.int .i64 ((nth (foldO ((isort ltSel xs).take i)) (((foldO ((isort ltSel xs).take i)).length : Int) - 1)).2))),
            (det (Nw w) 61 o),
            (det (Nw w) 62 (.int .i64 (((foldO ((isort ltSel xs).take i)).length : Int) - 1))),
            (det (Nw w) 63 (.pointer (some ((ptrOf o).add ((((foldO ((isort ltSel xs).take i)).length : Int) - 1 : Int).toNat * 2))))),
            (det (Nw w) 64 (.pointer (some (((ptrOf o).add ((((foldO ((isort ltSel xs).take i)).length : Int) - 1 : Int).toNat * 2)).add 0)))),
            (det (Nw w) 65 (.int .i64 ((nth (foldO ((isort ltSel xs).take i)) (((foldO ((isort ltSel xs).take i)).length : Int) - 1)).1))),
            (det (Nw w) 66 (.bool (decide ((nth (foldO ((isort ltSel xs).take i)) (((foldO ((isort ltSel xs).take i)).length : Int) - 1)).2 < (nth (foldO ((isort ltSel xs).take i)) (((foldO ((isort ltSel xs).take i)).length : Int) - 1)).1))))])
      [(iown SpanE 33 (Nw w) o (foldO ((isort ltSel xs).take i))), (Ini.any (Nw w)), (iown SpanE 33 (Nw w) b2x3 (isort ltSel xs)), (ibox 33 (Nw w) b8x6 [(.int .i64 ((nth (isort ltSel xs) ((i : Int))).1)), (.int .i64 ((nth (isort ltSel xs) ((i : Int))).2))])] mixed st13 (by kernel_rfl) ⟨r0, trivial, r2, r3, trivial⟩
      ⟨Ob.det rfl rfl rfl (fun _ a_ _ _ c => r_move rfl (c.eo e4 (by kernel_rfl))),
           Ob.det rfl rfl rfl (fun _ a_ _ _ c => r_move rfl (c.eo e7 (by kernel_rfl))),
           Ob.det rfl rfl rfl (fun _ a_ _ _ c => r_indexAddr rfl Try.underlying22 Try.sizeOf33 (c.ev 0 rfl rfl) r0.isSl (c.ev 1 rfl rfl) (by omega) (by omega)),
           Ob.det rfl rfl rfl (fun _ a_ _ _ c => r_fieldAddr rfl Try.underlying33 rfl rfl Try.sizeOf3 (c.ev 2 rfl rfl)),
           Ob.det rfl rfl rfl (fun _ a_ _ _ c => r_load1 rfl Try.isAgg3 (c.ev 3 rfl rfl) (((c.iown 0 rfl rfl (by kernel_rfl)).1.sl).elem (j := 1) (nth_some (by omega) (by omega)) rfl)),
           Ob.det rfl rfl rfl (fun _ a_ _ _ c => r_move rfl (c.eo e4 (by kernel_rfl))),
           Ob.det rfl rfl rfl (fun _ a_ _ _ c => r_move rfl (c.eo e7 (by kernel_rfl))),
           Ob.det rfl rfl rfl (fun _ a_ _ _ c => r_indexAddr rfl Try.underlying22 Try.sizeOf33 (c.ev 5 rfl rfl) r0.isSl (c.ev 6 rfl rfl) (by omega) (by omega)),
           Ob.det rfl rfl rfl (fun _ a_ _ _ c => r_fieldAddr rfl Try.underlying33 rfl rfl Try.sizeOf3 (c.ev 7 rfl rfl)),
           Ob.det rfl rfl rfl (fun _ a_ _ _ c => r_load1 rfl Try.isAgg3 (c.ev 8 rfl rfl) (((c.iown 0 rfl rfl (by kernel_rfl)).1.sl).elem (j := 0) (nth_some (by omega) (by omega)) rfl)),
           Ob.det rfl rfl rfl (fun _ a_ _ _ c => r_lss rfl (c.ev 4 rfl rfl) (c.ev 9 rfl rfl)),
       trivial⟩ ?_
    intro a14 w14 τ14 st14 f14
    replace e2 := f14.old e2 (by kernel_rfl)
    replace e4 := f14.old e4 (by kernel_rfl)
    replace e6 := f14.old e6 (by kernel_rfl)
    replace e7 := f14.old e7 (by kernel_rfl)
    replace e8 := f14.old e8 (by kernel_rfl)
    replace e9 := f14.old e9 (by kernel_rfl)
    replace e14 := f14.old e14 (by kernel_rfl)
    replace e15 := f14.old e15 (by kernel_rfl)
    replace e16 := f14.old e16 (by kernel_rfl)
    replace e17 := f14.old e17 (by kernel_rfl)
    replace e35 := f14.old e35 (by kernel_rfl)
    have e66 : get a14 66 = (.bool (decide ((nth (foldO ((isort ltSel xs).take i)) (((foldO ((isort ltSel xs).take i)).length : Int) - 1)).2 < (nth (foldO ((isort ltSel xs).take i)) (((foldO ((isort ltSel xs).take i)).length : Int) - 1)).1))) := f14.v 10 rfl
    replace r0 : ownR SpanE 33 (foldO ((isort ltSel xs).take i)) (τ14 0) o w14 := f14.iown 0 rfl rfl
    replace r2 : ownR SpanE 33 (isort ltSel xs) (τ14 2) b2x3 w14 := f14.iown 2 rfl rfl
    replace r3 : boxR 33 [(.int .i64 ((nth (isort ltSel xs) ((i : Int))).1)), (.int .i64 ((nth (isort ltSel xs) ((i : Int))).2))] (τ14 3) b8x6 w14 := f14.ibox 3 rfl rfl
    clear f14
    show Code.wp _ _ _ a14 w14
    refine wp_cond_split (t := decide ((nth (foldO ((isort ltSel xs).take i)) (((foldO ((isort ltSel xs).take i)).length : Int) - 1)).2 < (nth (foldO ((isort ltSel xs).take i)) (((foldO ((isort ltSel xs).take i)).length : Int) - 1)).1)) e66 (fun hc3 => ?_) (fun hc3 => ?_)
    · have hd3 := hc3; try simp only [Bool.and_eq_true, Bool.or_eq_true, decide_eq_true_eq, decide_eq_false_iff_not, Bool.not_eq_true', Bool.and_eq_false_iff, Bool.or_eq_false_iff, Bool.not_eq_false', Int.not_lt, Int.not_le, beq_iff_eq, selB] at hd3
      refine region_St (bf := [0, 0, 0, 0, 12, 31, 63]) (sp := [
          (det (Nw w) 67 o),
                (det (Nw w) 68 (.int .i64 (((foldO ((isort ltSel xs).take i)).length : Int) - 1))),
                (det (Nw w) 69 (.int .i64 (max ((sspan (nth (foldO ((isort ltSel xs).take i)) (((foldO ((isort ltSel xs).take i)).length : Int) - 1))).2) ((sspan (nth (isort ltSel xs) ((i : Int)))).2)))),
                (det (Nw w) 70 (.int .i64 ((sspan (nth (foldO ((isort ltSel xs).take i)) (((foldO ((isort ltSel xs).take i)).length : Int) - 1))).1))),
                (det (Nw w) 71 (.agg #[(.int .i64 (max ((sspan (nth (foldO ((isort ltSel xs).take i)) (((foldO ((isort ltSel xs).take i)).length : Int) - 1))).2) ((sspan (nth (isort ltSel xs) ((i : Int)))).2))), (.int .i64 ((sspan (nth (foldO ((isort ltSel xs).take i)) (((foldO ((isort ltSel xs).take i)).length : Int) - 1))).1))])),
                (det (Nw w) 72 (.pointer (some ((ptrOf o).add ((((foldO ((isort ltSel xs).take i)).length : Int) - 1 : Int).toNat * 2))))),
                (own SpanE 33 (Nw w) 0 4 ((foldO ((isort ltSel xs).take i)).set (((foldO ((isort ltSel xs).take i)).length : Int) - 1).toNat (max ((sspan (nth (foldO ((isort ltSel xs).take i)) (((foldO ((isort ltSel xs).take i)).length : Int) - 1))).2) ((sspan (nth (isort ltSel xs) ((i : Int)))).2), (sspan (nth (foldO ((isort ltSel xs).take i)) (((foldO ((isort ltSel xs).take i)).length : Int) - 1))).1)))])
        [(iown SpanE 33 (Nw w) o (foldO ((isort ltSel xs).take i))), (Ini.any (Nw w)), (iown SpanE 33 (Nw w) b2x3 (isort ltSel xs)), (ibox 33 (Nw w) b8x6 [(.int .i64 ((nth (isort ltSel xs) ((i : Int))).1)), (.int .i64 ((nth (isort ltSel xs) ((i : Int))).2))])] mixed st14 (by kernel_rfl) ⟨r0, trivial, r2, r3, trivial⟩
        ⟨Ob.det rfl rfl rfl (fun _ a_ _ _ c => r_move rfl (c.eo e4 (by kernel_rfl))),
               Ob.det rfl rfl rfl (fun _ a_ _ _ c => r_move rfl (c.eo e7 (by kernel_rfl))),
               Ob.det rfl rfl rfl (fun _ a_ _ _ c => r_move rfl (c.eo e9 (by kernel_rfl))),
               Ob.det rfl rfl rfl (fun _ a_ _ _ c => r_move rfl (c.eo e8 (by kernel_rfl))),
               Ob.det rfl rfl rfl (fun _ a_ _ _ c => r_build (cells := #[(.int .i64 (max ((sspan (nth (foldO ((isort ltSel xs).take i)) (((foldO ((isort ltSel xs).take i)).length : Int) - 1))).2) ((sspan (nth (isort ltSel xs) ((i : Int)))).2))), (.int .i64 ((sspan (nth (foldO ((isort ltSel xs).take i)) (((foldO ((isort ltSel xs).take i)).length : Int) - 1))).1))]) rfl Try.underlying33 Try.zeroValue33 (pl := #[(0, 1), (1, 1)]) (fun w_ => by simp [Try.sizeOf3]) (by simp only [List.map_toArray, List.map_cons, List.map_nil, (show a_.eval (.tmp 69) = (.int .i64 (max ((sspan (nth (foldO ((isort ltSel xs).take i)) (((foldO ((isort ltSel xs).take i)).length : Int) - 1))).2) ((sspan (nth (isort ltSel xs) ((i : Int)))).2))) from (c.ev 2 rfl rfl)), (show a_.eval (.tmp 70) = (.int .i64 ((sspan (nth (foldO ((isort ltSel xs).take i)) (((foldO ((isort ltSel xs).take i)).length : Int) - 1))).1)) from (c.ev 3 rfl rfl))]; rfl)),
               Ob.det rfl rfl rfl (fun _ a_ _ _ c => r_indexAddr rfl Try.underlying22 Try.sizeOf33 (c.ev 0 rfl rfl) r0.isSl (c.ev 1 rfl rfl) (by omega) (by omega)),
               Ob.storeElem (E := SpanE) (i := (((foldO ((isort ltSel xs).take i)).length : Int) - 1).toNat) (off := 0) (u := (.agg #[(.int .i64 (max ((sspan (nth (foldO ((isort ltSel xs).take i)) (((foldO ((isort ltSel xs).take i)).length : Int) - 1))).2) ((sspan (nth (isort ltSel xs) ((i : Int)))).2))), (.int .i64 ((sspan (nth (foldO ((isort ltSel xs).take i)) (((foldO ((isort ltSel xs).take i)).length : Int) - 1))).1))])) (x := nth (foldO ((isort ltSel xs).take i)) (((foldO ((isort ltSel xs).take i)).length : Int) - 1)) (x' := (max ((sspan (nth (foldO ((isort ltSel xs).take i)) (((foldO ((isort ltSel xs).take i)).length : Int) - 1))).2) ((sspan (nth (isort ltSel xs) ((i : Int)))).2), (sspan (nth (foldO ((isort ltSel xs).take i)) (((foldO ((isort ltSel xs).take i)).length : Int) - 1))).1)) rfl rfl rfl rfl Try.sizeOf33 (nth_some (by omega) (by (try simp only [List.length_set]); omega)) (Nat.le_of_ble_eq_true rfl) (by simp [Value.cells, Value.oneCell']) rfl (fun _ a_ _ _ c => ⟨by rw [(show get _ 4 = o from c.old e4 (by kernel_rfl))]; exact c.iown 0 rfl rfl (by kernel_rfl), (by rw [(c.ev 5 rfl rfl), (show get _ 4 = o from c.old e4 (by kernel_rfl))]; rfl), (c.ev 4 rfl rfl)⟩),
         trivial⟩ ?_
      intro a15 w15 τ15 st15 f15
      replace e2 := f15.old e2 (by kernel_rfl)
      replace e4 := f15.old e4 (by kernel_rfl)
      replace e6 := f15.old e6 (by kernel_rfl)
      replace e7 := f15.old e7 (by kernel_rfl)
      replace e8 := f15.old e8 (by kernel_rfl)
      replace e9 := f15.old e9 (by kernel_rfl)
      replace e14 := f15.old e14 (by kernel_rfl)
      replace e15 := f15.old e15 (by kernel_rfl)
      replace e16 := f15.old e16 (by kernel_rfl)
      replace e17 := f15.old e17 (by kernel_rfl)
      replace e35 := f15.old e35 (by kernel_rfl)
      replace e66 := f15.old e66 (by kernel_rfl)
      have r0 : ownR SpanE 33 ((foldO ((isort ltSel xs).take i)).set (((foldO ((isort ltSel xs).take i)).length : Int) - 1).toNat (max ((sspan (nth (foldO ((isort ltSel xs).take i)) (((foldO ((isort ltSel xs).take i)).length : Int) - 1))).2) ((sspan (nth (isort ltSel xs) ((i : Int)))).2), (sspan (nth (foldO ((isort ltSel xs).take i)) (((foldO ((isort ltSel xs).take i)).length : Int) - 1))).1)) (τ15 0) o w15 := f15.rown 6 rfl rfl e4
      replace r2 : ownR SpanE 33 (isort ltSel xs) (τ15 2) b2x3 w15 := f15.iown 2 rfl rfl
      replace r3 : boxR 33 [(.int .i64 ((nth (isort ltSel xs) ((i : Int))).1)), (.int .i64 ((nth (isort ltSel xs) ((i : Int))).2))] (τ15 3) b8x6 w15 := f15.ibox 3 rfl rfl
      clear f15
      show _
      show Code.wp _ _ _ a15 w15
      refine region_St (bf := [0, 1]) (sp := [
          (det (Nw w) 79 (.int .i64 ((i : Int) + 1))),
                (det (Nw w) 16 (.int .i64 ((i : Int) + 1)))])
        [(iown SpanE 33 (Nw w) o ((foldO ((isort ltSel xs).take i)).set (((foldO ((isort ltSel xs).take i)).length : Int) - 1).toNat (max ((sspan (nth (foldO ((isort ltSel xs).take i)) (((foldO ((isort ltSel xs).take i)).length : Int) - 1))).2) ((sspan (nth (isort ltSel xs) ((i : Int)))).2), (sspan (nth (foldO ((isort ltSel xs).take i)) (((foldO ((isort ltSel xs).take i)).length : Int) - 1))).1))), (Ini.any (Nw w)), (iown SpanE 33 (Nw w) b2x3 (isort ltSel xs)), (ibox 33 (Nw w) b8x6 [(.int .i64 ((nth (isort ltSel xs) ((i : Int))).1)), (.int .i64 ((nth (isort ltSel xs) ((i : Int))).2))])] mixed st15 (by kernel_rfl) ⟨r0, trivial, r2, r3, trivial⟩
        ⟨Ob.det rfl rfl rfl (fun _ a_ _ _ c => r_add rfl (c.eo e16 (by kernel_rfl)) rfl (by omega)),
               Ob.det rfl rfl rfl (fun _ a_ _ _ c => r_move rfl (c.ev 0 rfl rfl)),
         trivial⟩ ?_
      intro a16 w16 τ16 st16 f16
      replace e2 := f16.old e2 (by kernel_rfl)
      replace e4 := f16.old e4 (by kernel_rfl)
      replace e6 := f16.old e6 (by kernel_rfl)
      replace e7 := f16.old e7 (by kernel_rfl)
      replace e8 := f16.old e8 (by kernel_rfl)
      replace e9 := f16.old e9 (by kernel_rfl)
      replace e14 := f16.old e14 (by kernel_rfl)
      replace e15 := f16.old e15 (by kernel_rfl)
      have e16 : get a16 16 = (.int .i64 ((i : Int) + 1)) := f16.v 1 rfl
      replace e17 := f16.old e17 (by kernel_rfl)
      replace e35 := f16.old e35 (by kernel_rfl)
      replace e66 := f16.old e66 (by kernel_rfl)
      replace r0 : ownR SpanE 33 ((foldO ((isort ltSel xs).take i)).set (((foldO ((isort ltSel xs).take i)).length : Int) - 1).toNat (max ((sspan (nth (foldO ((isort ltSel xs).take i)) (((foldO ((isort ltSel xs).take i)).length : Int) - 1))).2) ((sspan (nth (isort ltSel xs) ((i : Int)))).2), (sspan (nth (foldO ((isort ltSel xs).take i)) (((foldO ((isort ltSel xs).take i)).length : Int) - 1))).1)) (τ16 0) o w16 := f16.iown 0 rfl rfl
      replace r2 : ownR SpanE 33 (isort ltSel xs) (τ16 2) b2x3 w16 := f16.iown 2 rfl rfl
      replace r3 : boxR 33 [(.int .i64 ((nth (isort ltSel xs) ((i : Int))).1)), (.int .i64 ((nth (isort ltSel xs) ((i : Int))).2))] (τ16 3) b8x6 w16 := f16.ibox 3 rfl rfl
      clear f16
      refine ⟨⟨i + 1, o, τ16, ?_, st16, e4, (e16.trans (int_eq (by omega))), e2, e14, e15, ?_, r2⟩, ?_⟩
      · omega
      · exact r0.cast (by first | exact foldO_add (by omega) (by assumption) | exact foldO_back (by omega) (by assumption) (by assumption) | exact foldO_on (by omega) (by assumption) (by assumption))
      · simp only [m16, e16, intOf]; omega
    have hd3 := hc3; try simp only [Bool.and_eq_true, Bool.or_eq_true, decide_eq_true_eq, decide_eq_false_iff_not, Bool.not_eq_true', Bool.and_eq_false_iff, Bool.or_eq_false_iff, Bool.not_eq_false', Int.not_lt, Int.not_le, beq_iff_eq, selB] at hd3
    refine region_St (bf := [0, 0, 0, 0, 12, 31, 63]) (sp := [
        (det (Nw w) 73 o),
            (det (Nw w) 74 (.int .i64 (((foldO ((isort ltSel xs).take i)).length : Int) - 1))),
            (det (Nw w) 75 (.int .i64 ((sspan (nth (foldO ((isort ltSel xs).take i)) (((foldO ((isort ltSel xs).take i)).length : Int) - 1))).1))),
            (det (Nw w) 76 (.int .i64 (max ((sspan (nth (foldO ((isort ltSel xs).take i)) (((foldO ((isort ltSel xs).take i)).length : Int) - 1))).2) ((sspan (nth (isort ltSel xs) ((i : Int)))).2)))),
            (det (Nw w) 77 (.agg #[(.int .i64 ((sspan (nth (foldO ((isort ltSel xs).take i)) (((foldO ((isort ltSel xs).take i)).length : Int) - 1))).1)), (.int .i64 (max ((sspan (nth (foldO ((isort ltSel xs).take i)) (((foldO ((isort ltSel xs).take i)).length : Int) - 1))).2) ((sspan (nth (isort ltSel xs) ((i : Int)))).2)))])),
            (det (Nw w) 78 (.pointer (some ((ptrOf o).add ((((foldO ((isort ltSel xs).take i)).length : Int) - 1 : Int).toNat * 2))))),
            (own SpanE 33 (Nw w) 0 4 ((foldO ((isort ltSel xs).take i)).set (((foldO ((isort ltSel xs).take i)).length : Int) - 1).toNat ((sspan (nth (foldO ((isort ltSel xs).take i)) (((foldO ((isort ltSel xs).take i)).length : Int) - 1))).1, max ((sspan (nth (foldO ((isort ltSel xs).take i)) (((foldO ((isort ltSel xs).take i)).length : Int) - 1))).2) ((sspan (nth (isort ltSel xs) ((i : Int)))).2))))])
      [(iown SpanE 33 (Nw w) o (foldO ((isort ltSel xs).take i))), (Ini.any (Nw w)), (iown SpanE 33 (Nw w) b2x3 (isort ltSel xs)), (ibox 33 (Nw w) b8x6 [(.int .i64 ((nth (isort ltSel xs) ((i : Int))).1)), (.int .i64 ((nth (isort ltSel xs) ((i : Int))).2))])] mixed st14 (by kernel_rfl) ⟨r0, trivial, r2, r3, trivial⟩
      ⟨Ob.det rfl rfl rfl (fun _ a_ _ _ c => r_move rfl (c.eo e4 (by kernel_rfl))),
           Ob.det rfl rfl rfl (fun _ a_ _ _ c => r_move rfl (c.eo e7 (by kernel_rfl))),
           Ob.det rfl rfl rfl (fun _ a_ _ _ c => r_move rfl (c.eo e8 (by kernel_rfl))),
           Ob.det rfl rfl rfl (fun _ a_ _ _ c => r_move rfl (c.eo e9 (by kernel_rfl))),
           Ob.det rfl rfl rfl (fun _ a_ _ _ c => r_build (cells := #[(.int .i64 ((sspan (nth (foldO ((isort ltSel xs).take i)) (((foldO ((isort ltSel xs).take i)).length : Int) - 1))).1)), (.int .i64 (max ((sspan (nth (foldO ((isort ltSel xs).take i)) (((foldO ((isort ltSel xs).take i)).length : Int) - 1))).2) ((sspan (nth (isort ltSel xs) ((i : Int)))).2)))]) rfl Try.underlying33 Try.zeroValue33 (pl := #[(0, 1), (1, 1)]) (fun w_ => by simp [Try.sizeOf3]) (by simp only [List.map_toArray, List.map_cons, List.map_nil, (show a_.eval (.tmp 75) = (.int .i64 ((sspan (nth (foldO ((isort ltSel xs).take i)) (((foldO ((isort ltSel xs).take i)).length : Int) - 1))).1)) from (c.ev 2 rfl rfl)), (show a_.eval (.tmp 76) = (.int .i64 (max ((sspan (nth (foldO ((isort ltSel xs).take i)) (((foldO ((isort ltSel xs).take i)).length : Int) - 1))).2) ((sspan (nth (isort ltSel xs) ((i : Int)))).2))) from (c.ev 3 rfl rfl))]; rfl)),
           Ob.det rfl rfl rfl (fun _ a_ _ _ c => r_indexAddr rfl Try.underlying22 Try.sizeOf33 (c.ev 0 rfl rfl) r0.isSl (c.ev 1 rfl rfl) (by omega) (by omega)),
           Ob.storeElem (E := SpanE) (i := (((foldO ((isort ltSel xs).take i)).length : Int) - 1).toNat) (off := 0) (u := (.agg #[(.int .i64 ((sspan (nth (foldO ((isort ltSel xs).take i)) (((foldO ((isort ltSel xs).take i)).length : Int) - 1))).1)), (.int .i64 (max ((sspan (nth (foldO ((isort ltSel xs).take i)) (((foldO ((isort ltSel xs).take i)).length : Int) - 1))).2) ((sspan (nth (isort ltSel xs) ((i : Int)))).2)))])) (x := nth (foldO ((isort ltSel xs).take i)) (((foldO ((isort ltSel xs).take i)).length : Int) - 1)) (x' := ((sspan (nth (foldO ((isort ltSel xs).take i)) (((foldO ((isort ltSel xs).take i)).length : Int) - 1))).1, max ((sspan (nth (foldO ((isort ltSel xs).take i)) (((foldO ((isort ltSel xs).take i)).length : Int) - 1))).2) ((sspan (nth (isort ltSel xs) ((i : Int)))).2))) rfl rfl rfl rfl Try.sizeOf33 (nth_some (by omega) (by (try simp only [List.length_set]); omega)) (Nat.le_of_ble_eq_true rfl) (by simp [Value.cells, Value.oneCell']) rfl (fun _ a_ _ _ c => ⟨by rw [(show get _ 4 = o from c.old e4 (by kernel_rfl))]; exact c.iown 0 rfl rfl (by kernel_rfl), (by rw [(c.ev 5 rfl rfl), (show get _ 4 = o from c.old e4 (by kernel_rfl))]; rfl), (c.ev 4 rfl rfl)⟩),
       trivial⟩ ?_
    intro a17 w17 τ17 st17 f17
    replace e2 := f17.old e2 (by kernel_rfl)
    replace e4 := f17.old e4 (by kernel_rfl)
    replace e6 := f17.old e6 (by kernel_rfl)
    replace e7 := f17.old e7 (by kernel_rfl)
    replace e8 := f17.old e8 (by kernel_rfl)
    replace e9 := f17.old e9 (by kernel_rfl)
    replace e14 := f17.old e14 (by kernel_rfl)
    replace e15 := f17.old e15 (by kernel_rfl)
    replace e16 := f17.old e16 (by kernel_rfl)
    replace e17 := f17.old e17 (by kernel_rfl)
    replace e35 := f17.old e35 (by kernel_rfl)
    replace e66 := f17.old e66 (by kernel_rfl)
    have r0 : ownR SpanE 33 ((foldO ((isort ltSel xs).take i)).set (((foldO ((isort ltSel xs).take i)).length : Int) - 1).toNat ((sspan (nth (foldO ((isort ltSel xs).take i)) (((foldO ((isort ltSel xs).take i)).length : Int) - 1))).1, max ((sspan (nth (foldO ((isort ltSel xs).take i)) (((foldO ((isort ltSel xs).take i)).length : Int) - 1))).2) ((sspan (nth (isort ltSel xs) ((i : Int)))).2))) (τ17 0) o w17 := f17.rown 6 rfl rfl e4
    replace r2 : ownR SpanE 33 (isort ltSel xs) (τ17 2) b2x3 w17 := f17.iown 2 rfl rfl
    replace r3 : boxR 33 [(.int .i64 ((nth (isort ltSel xs) ((i : Int))).1)), (.int .i64 ((nth (isort ltSel xs) ((i : Int))).2))] (τ17 3) b8x6 w17 := f17.ibox 3 rfl rfl
    clear f17
    show _
    show Code.wp _ _ _ a17 w17
    refine region_St (bf := [0, 1]) (sp := [
        (det (Nw w) 79 (.int .i64 ((i : Int) + 1))),
            (det (Nw w) 16 (.int .i64 ((i : Int) + 1)))])
      [(iown SpanE 33 (Nw w) o ((foldO ((isort ltSel xs).take i)).set (((foldO ((isort ltSel xs).take i)).length : Int) - 1).toNat ((sspan (nth (foldO ((isort ltSel xs).take i)) (((foldO ((isort ltSel xs).take i)).length : Int) - 1))).1, max ((sspan (nth (foldO ((isort ltSel xs).take i)) (((foldO ((isort ltSel xs).take i)).length : Int) - 1))).2) ((sspan (nth (isort ltSel xs) ((i : Int)))).2)))), (Ini.any (Nw w)), (iown SpanE 33 (Nw w) b2x3 (isort ltSel xs)), (ibox 33 (Nw w) b8x6 [(.int .i64 ((nth (isort ltSel xs) ((i : Int))).1)), (.int .i64 ((nth (isort ltSel xs) ((i : Int))).2))])] mixed st17 (by kernel_rfl) ⟨r0, trivial, r2, r3, trivial⟩
      ⟨Ob.det rfl rfl rfl (fun _ a_ _ _ c => r_add rfl (c.eo e16 (by kernel_rfl)) rfl (by omega)),
           Ob.det rfl rfl rfl (fun _ a_ _ _ c => r_move rfl (c.ev 0 rfl rfl)),
       trivial⟩ ?_
    intro a18 w18 τ18 st18 f18
    replace e2 := f18.old e2 (by kernel_rfl)
    replace e4 := f18.old e4 (by kernel_rfl)
    replace e6 := f18.old e6 (by kernel_rfl)
    replace e7 := f18.old e7 (by kernel_rfl)
    replace e8 := f18.old e8 (by kernel_rfl)
    replace e9 := f18.old e9 (by kernel_rfl)
    replace e14 := f18.old e14 (by kernel_rfl)
    replace e15 := f18.old e15 (by kernel_rfl)
    have e16 : get a18 16 = (.int .i64 ((i : Int) + 1)) := f18.v 1 rfl
    replace e17 := f18.old e17 (by kernel_rfl)
    replace e35 := f18.old e35 (by kernel_rfl)
    replace e66 := f18.old e66 (by kernel_rfl)
    replace r0 : ownR SpanE 33 ((foldO ((isort ltSel xs).take i)).set (((foldO ((isort ltSel xs).take i)).length : Int) - 1).toNat ((sspan (nth (foldO ((isort ltSel xs).take i)) (((foldO ((isort ltSel xs).take i)).length : Int) - 1))).1, max ((sspan (nth (foldO ((isort ltSel xs).take i)) (((foldO ((isort ltSel xs).take i)).length : Int) - 1))).2) ((sspan (nth (isort ltSel xs) ((i : Int)))).2))) (τ18 0) o w18 := f18.iown 0 rfl rfl
    replace r2 : ownR SpanE 33 (isort ltSel xs) (τ18 2) b2x3 w18 := f18.iown 2 rfl rfl
    replace r3 : boxR 33 [(.int .i64 ((nth (isort ltSel xs) ((i : Int))).1)), (.int .i64 ((nth (isort ltSel xs) ((i : Int))).2))] (τ18 3) b8x6 w18 := f18.ibox 3 rfl rfl
    clear f18
    refine ⟨⟨i + 1, o, τ18, ?_, st18, e4, (e16.trans (int_eq (by omega))), e2, e14, e15, ?_, r2⟩, ?_⟩
    · omega
    · exact r0.cast (by first | exact foldO_add (by omega) (by assumption) | exact foldO_back (by omega) (by assumption) (by assumption) | exact foldO_on (by omega) (by assumption) (by assumption))
    · simp only [m16, e16, intOf]; omega
  try simp only [Bool.and_eq_true, Bool.or_eq_true, decide_eq_true_eq, decide_eq_false_iff_not, Bool.not_eq_true', Bool.and_eq_false_iff, Bool.or_eq_false_iff, Bool.not_eq_false', Int.not_lt, Int.not_le, beq_iff_eq, selB] at hc1
  refine wp_exit ?_
  repeat (with_reducible refine then_exit ?_)
  refine exit_here ?_
  show Code.wp _ _ _ a7 w7
  refine wp_seq ?_
  refine region_St (bf := [0, 1]) (sp := [
      (det (Nw w) 80 o),
        (det (Nw w) 2 o)])
    [(iown SpanE 33 (Nw w) o (foldO ((isort ltSel xs).take i))), (Ini.any (Nw w)), (iown SpanE 33 (Nw w) b2x3 (isort ltSel xs))] mixed st7 (by kernel_rfl) ⟨r0, trivial, r2, trivial⟩
    ⟨Ob.det rfl rfl rfl (fun _ a_ _ _ c => r_move rfl (c.eo e4 (by kernel_rfl))),
       Ob.det rfl rfl rfl (fun _ a_ _ _ c => r_assign rfl (c.ev 0 rfl rfl)),
     trivial⟩ ?_
  intro a19 w19 τ19 st19 f19
  have e2 : get a19 2 = o := f19.v 1 rfl
  replace r0 : ownR SpanE 33 (foldO ((isort ltSel xs).take i)) (τ19 0) o w19 := f19.iown 0 rfl rfl
  clear f19
  show Code.wp _ _ _ a19 w19
  refine wp_ret ?_
  repeat (first | with_reducible refine then_ret ?_ | with_reducible refine block_ret ?_)
  refine ret1 (fn := Try.f19) rfl st19.defers e2 ?_
  replace r0 := r0.cast (show ordF xs = _ from by rw [ordF, List.take_of_length_le (l := isort ltSel xs) (by omega)])
  exact ⟨_, rfl, st19.ext0, r0.1, fun g_ h_ => (st19.bnd _ g_ (r0.2 g_ h_)).1⟩

set_option maxRecDepth 100000 in
theorem norm_c (n : Int) (v : Value) (xs : List (Int × Int)) (w : World) (hS : SlT SpanE w v xs) : Calls Try.prog 10 #[(.int .i64 (n)), v] w (fun e w' => ∃ v', e = .returned (.tuple #[v', .int .i64 (normE n xs)]) ∧ Ext none' w w' ∧ NewT SpanE 33 w w' v' (normF n xs)) := by
  refine enter (n := 28) Try.func10 rfl rfl (Nat.le_of_ble_eq_true rfl) ?_
  intro a0 τ0 ha st0
  have e0 : get a0 0 = (.int .i64 (n)) := ha 0 _ rfl
  have e1 : get a0 1 = v := ha 1 _ rfl
  clear ha
  have hle := hS.le
  refine wp_seq ?_
  refine region_St (bf := [0, 1]) (sp := [
      (det (Nw w) 4 (.slice none 0 0)),
        (det (Nw w) 5 (.int .i64 (0)))])
    [] mixed st0 (by kernel_rfl) trivial
    ⟨Ob.det rfl rfl rfl (fun _ a_ _ _ c => r_assign rfl rfl),
       Ob.det rfl rfl rfl (fun _ a_ _ _ c => r_assign rfl rfl),
     trivial⟩ ?_
  intro a1 w1 τ1 st1 f1
  replace e0 := f1.old e0 (by kernel_rfl)
  replace e1 := f1.old e1 (by kernel_rfl)
  have e4 : get a1 4 = (.slice none 0 0) := f1.v 0 rfl
  have e5 : get a1 5 = (.int .i64 (0)) := f1.v 1 rfl
  clear f1
  show Code.wp _ _ _ a1 w1
  refine wp_seq ?_
  refine wp_seq ?_
  refine region_St (bf := [0, 1, 3]) (sp := [
      (det (Nw w) 8 v),
        (det (Nw w) 9 (.int .i64 ((xs.length : Int)))),
        (det (Nw w) 10 (.bool (decide ((xs.length : Int) = 0))))])
    [] mixed st1 (by kernel_rfl) trivial
    ⟨Ob.det rfl rfl rfl (fun _ a_ _ _ c => r_move rfl (c.eo e1 (by kernel_rfl))),
       Ob.det rfl rfl rfl (fun _ a_ _ _ c => r_len rfl Try.underlying22 (c.ev 0 rfl rfl) hS.sl),
       Ob.det rfl rfl rfl (fun _ a_ _ _ c => r_eql rfl (c.ev 1 rfl rfl) rfl),
     trivial⟩ ?_
  intro a2 w2 τ2 st2 f2
  replace e0 := f2.old e0 (by kernel_rfl)
  replace e1 := f2.old e1 (by kernel_rfl)
  replace e4 := f2.old e4 (by kernel_rfl)
  replace e5 := f2.old e5 (by kernel_rfl)
  have e10 : get a2 10 = (.bool (decide ((xs.length : Int) = 0))) := f2.v 2 rfl
  clear f2
  show Code.wp _ _ _ a2 w2
  refine wp_cond_split (t := decide ((xs.length : Int) = 0)) e10 (fun hc1 => ?_) (fun hc1 => ?_)
  · have hd1 := hc1; try simp only [Bool.and_eq_true, Bool.or_eq_true, decide_eq_true_eq, decide_eq_false_iff_not, Bool.not_eq_true', Bool.and_eq_false_iff, Bool.or_eq_false_iff, Bool.not_eq_false', Int.not_lt, Int.not_le, beq_iff_eq, selB] at hd1
    refine wp_seq ?_
    refine region_St (bf := [0, 1]) (sp := [
        (det (Nw w) 4 (.slice none 0 0)),
            (det (Nw w) 5 (.int .i64 (2)))])
      [] mixed st2 (by kernel_rfl) trivial
      ⟨Ob.det rfl rfl rfl (fun _ a_ _ _ c => r_assign rfl rfl),
           Ob.det rfl rfl rfl (fun _ a_ _ _ c => r_assign rfl rfl),
       trivial⟩ ?_
    intro a3 w3 τ3 st3 f3
    replace e0 := f3.old e0 (by kernel_rfl)
    replace e1 := f3.old e1 (by kernel_rfl)
    have e4 : get a3 4 = (.slice none 0 0) := f3.v 0 rfl
    have e5 : get a3 5 = (.int .i64 (2)) := f3.v 1 rfl
    clear f3
    show Code.wp _ _ _ a3 w3
    refine wp_ret ?_
    repeat (first | with_reducible refine then_ret ?_ | with_reducible refine block_ret ?_)
    refine ret2 (fn := Try.f10) rfl st3.defers e4 e5 ?_
    obtain ⟨k1, k2⟩ := normE_2 (n := n) hc1
    rw [k1, k2]
    exact ⟨_, rfl, st3.ext0, OwnT.nil _ _ _, fun g_ h_ => by simp [Value.ownBlock] at h_⟩
  have hd1 := hc1; try simp only [Bool.and_eq_true, Bool.or_eq_true, decide_eq_true_eq, decide_eq_false_iff_not, Bool.not_eq_true', Bool.and_eq_false_iff, Bool.or_eq_false_iff, Bool.not_eq_false', Int.not_lt, Int.not_le, beq_iff_eq, selB] at hd1
  refine wp_skip ?_
  show Code.wp _ _ _ a2 w2
  refine wp_seq ?_
  refine wp_seq ?_
  refine region_St (bf := [0, 1, 3]) (sp := [
      (det (Nw w) 11 v),
        (det (Nw w) 12 (.int .i64 ((xs.length : Int)))),
        (det (Nw w) 13 (.bool (decide (64 < (xs.length : Int)))))])
    [] mixed st2 (by kernel_rfl) trivial
    ⟨Ob.det rfl rfl rfl (fun _ a_ _ _ c => r_move rfl (c.eo e1 (by kernel_rfl))),
       Ob.det rfl rfl rfl (fun _ a_ _ _ c => r_len rfl Try.underlying22 (c.ev 0 rfl rfl) hS.sl),
       Ob.det rfl rfl rfl (fun _ a_ _ _ c => r_gtr rfl (c.ev 1 rfl rfl) rfl),
     trivial⟩ ?_
  intro a4 w4 τ4 st4 f4
  replace e0 := f4.old e0 (by kernel_rfl)
  replace e1 := f4.old e1 (by kernel_rfl)
  replace e4 := f4.old e4 (by kernel_rfl)
  replace e5 := f4.old e5 (by kernel_rfl)
  have e13 : get a4 13 = (.bool (decide (64 < (xs.length : Int)))) := f4.v 2 rfl
  clear f4
  show Code.wp _ _ _ a4 w4
  refine wp_cond_split (t := decide (64 < (xs.length : Int))) e13 (fun hc2 => ?_) (fun hc2 => ?_)
  · have hd2 := hc2; try simp only [Bool.and_eq_true, Bool.or_eq_true, decide_eq_true_eq, decide_eq_false_iff_not, Bool.not_eq_true', Bool.and_eq_false_iff, Bool.or_eq_false_iff, Bool.not_eq_false', Int.not_lt, Int.not_le, beq_iff_eq, selB] at hd2
    refine wp_seq ?_
    refine region_St (bf := [0, 1]) (sp := [
        (det (Nw w) 4 (.slice none 0 0)),
            (det (Nw w) 5 (.int .i64 (7)))])
      [] mixed st4 (by kernel_rfl) trivial
      ⟨Ob.det rfl rfl rfl (fun _ a_ _ _ c => r_assign rfl rfl),
           Ob.det rfl rfl rfl (fun _ a_ _ _ c => r_assign rfl rfl),
       trivial⟩ ?_
    intro a5 w5 τ5 st5 f5
    replace e0 := f5.old e0 (by kernel_rfl)
    replace e1 := f5.old e1 (by kernel_rfl)
    have e4 : get a5 4 = (.slice none 0 0) := f5.v 0 rfl
    have e5 : get a5 5 = (.int .i64 (7)) := f5.v 1 rfl
    clear f5
    show Code.wp _ _ _ a5 w5
    refine wp_ret ?_
    repeat (first | with_reducible refine then_ret ?_ | with_reducible refine block_ret ?_)
    refine ret2 (fn := Try.f10) rfl st5.defers e4 e5 ?_
    obtain ⟨k1, k2⟩ := normE_7 (n := n) hc1 hc2
    rw [k1, k2]
    exact ⟨_, rfl, st5.ext0, OwnT.nil _ _ _, fun g_ h_ => by simp [Value.ownBlock] at h_⟩
  have hd2 := hc2; try simp only [Bool.and_eq_true, Bool.or_eq_true, decide_eq_true_eq, decide_eq_false_iff_not, Bool.not_eq_true', Bool.and_eq_false_iff, Bool.or_eq_false_iff, Bool.not_eq_false', Int.not_lt, Int.not_le, beq_iff_eq, selB] at hd2
  refine wp_skip ?_
  show Code.wp _ _ _ a4 w4
  refine wp_seq ?_
  refine wp_seq ?_
  refine region_St (bf := [0, 1, 0]) (sp := [
      (det (Nw w) 14 v),
        (det (Nw w) 15 (.int .i64 ((xs.length : Int)))),
        (det (Nw w) 16 (.int .i64 (0)))])
    [] mixed st4 (by kernel_rfl) trivial
    ⟨Ob.det rfl rfl rfl (fun _ a_ _ _ c => r_move rfl (c.eo e1 (by kernel_rfl))),
       Ob.det rfl rfl rfl (fun _ a_ _ _ c => r_len rfl Try.underlying22 (c.ev 0 rfl rfl) hS.sl),
       Ob.det rfl rfl rfl (fun _ a_ _ _ c => r_move rfl rfl),
     trivial⟩ ?_
  intro a6 w6 τ6 st6 f6
  replace e0 := f6.old e0 (by kernel_rfl)
  replace e1 := f6.old e1 (by kernel_rfl)
  replace e4 := f6.old e4 (by kernel_rfl)
  replace e5 := f6.old e5 (by kernel_rfl)
  have e14 : get a6 14 = v := f6.v 0 rfl
  have e15 : get a6 15 = (.int .i64 ((xs.length : Int))) := f6.v 1 rfl
  have e16 : get a6 16 = (.int .i64 (0)) := f6.v 2 rfl
  clear f6
  show Code.wp _ _ _ a6 w6
  refine wp_block ?_
  refine wp_loop (fun a_ w_ => ∃ (k : Nat) (τ : Nat → Foot), (k ≤ xs.length) ∧
        (∀ i < k, (!mayB (sspan (nth xs ((i : Nat) : Int))) n) = false) ∧
        St (Nw w) w 28 a_ w_ τ ∧
        get a_ 16 = (.int .i64 ((k : Int))) ∧
        get a_ 0 = (.int .i64 (n)) ∧
        get a_ 1 = v ∧
        get a_ 14 = v ∧
        get a_ 15 = (.int .i64 ((xs.length : Int)))) (fun a_ _ => xs.length - (intOf (get a_ 16)).toNat) ?_ ?_
  · refine ⟨0, τ6, ?_, ?_, st6, (e16.trans (int_eq (by omega))), e0, e1, e14, e15⟩
    · omega
    · intro i hi; omega
  intro a7 w7 hI
  obtain ⟨k, τ7, q0, q1, st7, e16, e0, e1, e14, e15⟩ := hI
  have m16 := e16
  refine wp_seq ?_
  refine region_St (bf := [0]) (sp := [
      (det (Nw w) 17 (.bool (decide ((k : Int) < (xs.length : Int)))))])
    [] mixed st7 (by kernel_rfl) trivial
    ⟨Ob.det rfl rfl rfl (fun _ a_ _ _ c => r_lss rfl (c.eo e16 (by kernel_rfl)) (c.eo e15 (by kernel_rfl))),
     trivial⟩ ?_
  intro a8 w8 τ8 st8 f8
  replace e0 := f8.old e0 (by kernel_rfl)
  replace e1 := f8.old e1 (by kernel_rfl)
  replace e14 := f8.old e14 (by kernel_rfl)
  replace e15 := f8.old e15 (by kernel_rfl)
  replace e16 := f8.old e16 (by kernel_rfl)
  have e17 : get a8 17 = (.bool (decide ((k : Int) < (xs.length : Int)))) := f8.v 0 rfl
  clear f8
  show Code.wp _ _ _ a8 w8
  refine wp_seq ?_
  refine wp_cond_split (t := decide ((k : Int) < (xs.length : Int))) e17 (fun hc3 => ?_) (fun hc3 => ?_)
  · try simp only [Bool.and_eq_true, Bool.or_eq_true, decide_eq_true_eq, decide_eq_false_iff_not, Bool.not_eq_true', Bool.and_eq_false_iff, Bool.or_eq_false_iff, Bool.not_eq_false', Int.not_lt, Int.not_le, beq_iff_eq, selB] at hc3
    refine wp_skip ?_
    show Code.wp _ _ _ a8 w8
    refine wp_seq ?_
    refine wp_block ?_
    refine wp_seq ?_
    refine region_St (bf := [0, 1, 0, 7]) (sp := [
        (det (Nw w) 18 (.pointer (some ((ptrOf v).add (((k : Int) : Int).toNat * 2))))),
            (det (Nw w) 19 (.agg #[(.int .i64 ((nth xs ((k : Int))).1)), (.int .i64 ((nth xs ((k : Int))).2))])),
            (box 33 (Nw w) 0 7 [(.int .i64 (0)), (.int .i64 (0))]),
            (box 33 (Nw w) 0 7 [(.int .i64 ((nth xs ((k : Int))).1)), (.int .i64 ((nth xs ((k : Int))).2))])])
      [] mixed st8 (by kernel_rfl) trivial
      ⟨Ob.det rfl rfl rfl (fun _ a_ _ _ c => r_indexAddr rfl Try.underlying22 Try.sizeOf33 (c.eo e14 (by kernel_rfl)) hS.sl (c.eo e16 (by kernel_rfl)) (by omega) (by omega)),
           Ob.det rfl rfl rfl (fun _ a_ _ _ c => r_loadN (vs := [(.int .i64 ((nth xs ((k : Int))).1)), (.int .i64 ((nth xs ((k : Int))).2))]) rfl Try.isAgg33 Try.sizeOf33 (c.ev 0 rfl rfl) rfl (fun _ _ hj => ((hS.at (st8.ext.trans c.J.ext))).elem (nth_some (by omega) (by omega)) hj)),
           Ob.alloc rfl rfl rfl rfl Try.zeroValue33 rfl,
           Ob.storeBox (off := 0) (v := (.agg #[(.int .i64 ((nth xs ((k : Int))).1)), (.int .i64 ((nth xs ((k : Int))).2))])) rfl rfl rfl rfl Try.sizeOf33 (Nat.le_of_ble_eq_true rfl) (by simp [Value.cells, Value.oneCell']) rfl (fun _ _ _ _ c => ⟨c.rbox 2 rfl rfl (by kernel_rfl), (c.rbox 2 rfl rfl (by kernel_rfl)).ptr, (c.ev 1 rfl rfl)⟩),
       trivial⟩ ?_
    intro a9 w9 τ9 st9 f9
    obtain ⟨b9x7, e7⟩ : ∃ b, get a9 7 = b := ⟨_, rfl⟩
    replace e0 := f9.old e0 (by kernel_rfl)
    replace e1 := f9.old e1 (by kernel_rfl)
    replace e14 := f9.old e14 (by kernel_rfl)
    replace e15 := f9.old e15 (by kernel_rfl)
    replace e16 := f9.old e16 (by kernel_rfl)
    replace e17 := f9.old e17 (by kernel_rfl)
    have r0 : boxR 33 [(.int .i64 ((nth xs ((k : Int))).1)), (.int .i64 ((nth xs ((k : Int))).2))] (τ9 0) b9x7 w9 := f9.rbox 3 rfl rfl e7
    clear f9
    show Code.wp _ _ _ a9 w9
    refine wp_seq ?_
    refine region_St (bf := [0, 1, 0, 7, 15]) (sp := [
        (det (Nw w) 20 (.agg #[(.int .i64 ((nth xs ((k : Int))).1)), (.int .i64 ((nth xs ((k : Int))).2))])),
            (det (Nw w) 21 (.agg #[(.int .i64 ((sspan (nth xs ((k : Int)))).1)), (.int .i64 ((sspan (nth xs ((k : Int)))).2))])),
            (det (Nw w) 22 (.int .i64 (n))),
            (det (Nw w) 23 (.bool (mayB (sspan (nth xs ((k : Int)))) n))),
            (det (Nw w) 24 (.bool (!(mayB (sspan (nth xs ((k : Int)))) n))))])
      [(ibox 33 (Nw w) b9x7 [(.int .i64 ((nth xs ((k : Int))).1)), (.int .i64 ((nth xs ((k : Int))).2))])] mixed st9 (by kernel_rfl) ⟨r0, trivial⟩
      ⟨Ob.det rfl rfl rfl (fun _ a_ _ _ c => r_loadN (vs := [(.int .i64 ((nth xs ((k : Int))).1)), (.int .i64 ((nth xs ((k : Int))).2))]) rfl Try.isAgg33 Try.sizeOf33 ((c.eo e7 (by kernel_rfl)).trans r0.ptr) rfl (fun _ _ hj => (c.ibox 0 rfl rfl (by kernel_rfl)).cell hj)),
           Ob.call rfl rfl rfl (fun _ a_ _ _ c => ⟨_, _, (e_call1 rfl rfl Try.call15 (c.ev 0 rfl rfl)), selSpan_c (nth xs ((k : Int))) _⟩),
           Ob.det rfl rfl rfl (fun _ a_ _ _ c => r_move rfl (c.eo e0 (by kernel_rfl))),
           Ob.call rfl rfl rfl (fun _ a_ _ _ c => ⟨_, _, (e_call2 rfl rfl Try.call18 (c.ev 1 rfl rfl) (c.ev 2 rfl rfl)), may_c (sspan (nth xs ((k : Int)))) n _⟩),
           Ob.det rfl rfl rfl (fun _ a_ _ _ c => r_not rfl (c.ev 3 rfl rfl)),
       trivial⟩ ?_
    intro a10 w10 τ10 st10 f10
    replace e0 := f10.old e0 (by kernel_rfl)
    replace e1 := f10.old e1 (by kernel_rfl)
    replace e7 := f10.old e7 (by kernel_rfl)
    replace e14 := f10.old e14 (by kernel_rfl)
    replace e15 := f10.old e15 (by kernel_rfl)
    replace e16 := f10.old e16 (by kernel_rfl)
    replace e17 := f10.old e17 (by kernel_rfl)
    have e24 : get a10 24 = (.bool (!(mayB (sspan (nth xs ((k : Int)))) n))) := f10.v 4 rfl
    replace r0 : boxR 33 [(.int .i64 ((nth xs ((k : Int))).1)), (.int .i64 ((nth xs ((k : Int))).2))] (τ10 0) b9x7 w10 := f10.ibox 0 rfl rfl
    clear f10
    show Code.wp _ _ _ a10 w10
    refine wp_cond_split (t := !(mayB (sspan (nth xs ((k : Int)))) n)) e24 (fun hc4 => ?_) (fun hc4 => ?_)
    · have hd4 := hc4; try simp only [Bool.and_eq_true, Bool.or_eq_true, decide_eq_true_eq, decide_eq_false_iff_not, Bool.not_eq_true', Bool.and_eq_false_iff, Bool.or_eq_false_iff, Bool.not_eq_false', Int.not_lt, Int.not_le, beq_iff_eq, selB] at hd4
      refine wp_seq ?_
      refine region_St (bf := [0, 1]) (sp := [
          (det (Nw w) 4 (.slice none 0 0)),
                (det (Nw w) 5 (.int .i64 (3)))])
        [(ibox 33 (Nw w) b9x7 [(.int .i64 ((nth xs ((k : Int))).1)), (.int .i64 ((nth xs ((k : Int))).2))])] mixed st10 (by kernel_rfl) ⟨r0, trivial⟩
        ⟨Ob.det rfl rfl rfl (fun _ a_ _ _ c => r_assign rfl rfl),
               Ob.det rfl rfl rfl (fun _ a_ _ _ c => r_assign rfl rfl),
         trivial⟩ ?_
      intro a11 w11 τ11 st11 f11
      replace e0 := f11.old e0 (by kernel_rfl)
      replace e1 := f11.old e1 (by kernel_rfl)
      have e4 : get a11 4 = (.slice none 0 0) := f11.v 0 rfl
      have e5 : get a11 5 = (.int .i64 (3)) := f11.v 1 rfl
      replace e7 := f11.old e7 (by kernel_rfl)
      replace e14 := f11.old e14 (by kernel_rfl)
      replace e15 := f11.old e15 (by kernel_rfl)
      replace e16 := f11.old e16 (by kernel_rfl)
      replace e17 := f11.old e17 (by kernel_rfl)
      replace e24 := f11.old e24 (by kernel_rfl)
      replace r0 : boxR 33 [(.int .i64 ((nth xs ((k : Int))).1)), (.int .i64 ((nth xs ((k : Int))).2))] (τ11 0) b9x7 w11 := f11.ibox 0 rfl rfl
      clear f11
      show Code.wp _ _ _ a11 w11
      refine wp_ret ?_
      repeat (first | with_reducible refine then_ret ?_ | with_reducible refine block_ret ?_)
      refine ret2 (fn := Try.f10) rfl st11.defers e4 e5 ?_
      obtain ⟨k1, k2⟩ := normE_3 (n := n) (k := k) hc1 hc2 (by omega) (by assumption)
      rw [k1, k2]
      exact ⟨_, rfl, st11.ext0, OwnT.nil _ _ _, fun g_ h_ => by simp [Value.ownBlock] at h_⟩
    have hd4 := hc4; try simp only [Bool.and_eq_true, Bool.or_eq_true, decide_eq_true_eq, decide_eq_false_iff_not, Bool.not_eq_true', Bool.and_eq_false_iff, Bool.or_eq_false_iff, Bool.not_eq_false', Int.not_lt, Int.not_le, beq_iff_eq, selB] at hd4
    refine wp_skip ?_
    show _
    show Code.wp _ _ _ a10 w10
    refine region_St (bf := [0, 1]) (sp := [
        (det (Nw w) 25 (.int .i64 ((k : Int) + 1))),
            (det (Nw w) 16 (.int .i64 ((k : Int) + 1)))])
      [(ibox 33 (Nw w) b9x7 [(.int .i64 ((nth xs ((k : Int))).1)), (.int .i64 ((nth xs ((k : Int))).2))])] mixed st10 (by kernel_rfl) ⟨r0, trivial⟩
      ⟨Ob.det rfl rfl rfl (fun _ a_ _ _ c => r_add rfl (c.eo e16 (by kernel_rfl)) rfl (by omega)),
           Ob.det rfl rfl rfl (fun _ a_ _ _ c => r_move rfl (c.ev 0 rfl rfl)),
       trivial⟩ ?_
    intro a12 w12 τ12 st12 f12
    replace e0 := f12.old e0 (by kernel_rfl)
    replace e1 := f12.old e1 (by kernel_rfl)
    replace e7 := f12.old e7 (by kernel_rfl)
    replace e14 := f12.old e14 (by kernel_rfl)
    replace e15 := f12.old e15 (by kernel_rfl)
    have e16 : get a12 16 = (.int .i64 ((k : Int) + 1)) := f12.v 1 rfl
    replace e17 := f12.old e17 (by kernel_rfl)
    replace e24 := f12.old e24 (by kernel_rfl)
    replace r0 : boxR 33 [(.int .i64 ((nth xs ((k : Int))).1)), (.int .i64 ((nth xs ((k : Int))).2))] (τ12 0) b9x7 w12 := f12.ibox 0 rfl rfl
    clear f12
    refine ⟨⟨k + 1, τ12, ?_, ?_, st12, (e16.trans (int_eq (by omega))), e0, e1, e14, e15⟩, ?_⟩
    · omega
    · exact upto_succ (f := fun i => !mayB (sspan (nth xs i)) n) q1 (by assumption)
    · simp only [m16, e16, intOf]; omega
  try simp only [Bool.and_eq_true, Bool.or_eq_true, decide_eq_true_eq, decide_eq_false_iff_not, Bool.not_eq_true', Bool.and_eq_false_iff, Bool.or_eq_false_iff, Bool.not_eq_false', Int.not_lt, Int.not_le, beq_iff_eq, selB] at hc3
  refine wp_exit ?_
  repeat (with_reducible refine then_exit ?_)
  refine exit_here ?_
  show Code.wp _ _ _ a8 w8
  refine wp_seq ?_
  refine region_St (bf := [0, 1, 3, 7]) (sp := [
      (det (Nw w) 26 v),
        (own SpanE 33 (Nw w) 0 27 (ordF xs)),
        (own SpanE 33 (Nw w) 0 4 (ordF xs)),
        (det (Nw w) 5 (.int .i64 (0)))])
    [] mixed st8 (by kernel_rfl) trivial
    ⟨Ob.det rfl rfl rfl (fun _ a_ _ _ c => r_move rfl (c.eo e1 (by kernel_rfl))),
       Ob.callOwn rfl rfl rfl (fun _ a_ _ _ c => ⟨_, _, (e_call1 rfl rfl Try.call19 (c.ev 0 rfl rfl)), order_c v xs _ (hS.at (st8.ext.trans c.J.ext)) (by omega)⟩),
       Ob.moveT (t0 := 27) rfl rfl rfl rfl rfl (.inr rfl) (fun _ _ _ _ c => ⟨c.rown 1 rfl rfl (by kernel_rfl), rfl⟩),
       Ob.det rfl rfl rfl (fun _ a_ _ _ c => r_assign rfl rfl),
     trivial⟩ ?_
  intro a13 w13 τ13 st13 f13
  obtain ⟨b13x4, e4⟩ : ∃ b, get a13 4 = b := ⟨_, rfl⟩
  have e5 : get a13 5 = (.int .i64 (0)) := f13.v 3 rfl
  have r0 : ownR SpanE 33 (ordF xs) (τ13 0) b13x4 w13 := f13.rown 2 rfl rfl e4
  clear f13
  show Code.wp _ _ _ a13 w13
  refine wp_ret ?_
  repeat (first | with_reducible refine then_ret ?_ | with_reducible refine block_ret ?_)
  refine ret2 (fn := Try.f10) rfl st13.defers e4 e5 ?_
  obtain ⟨k1, k2⟩ := normE_ok (n := n) hc1 hc2 q1 (by omega)
  rw [k1, k2]
  exact ⟨_, rfl, st13.ext0, r0.1, fun g_ h_ => (st13.bnd _ g_ (r0.2 g_ h_)).1⟩

set_option maxRecDepth 100000 in
theorem sortE_c (v : Value) (xs : List (Int × Int × ByteArray)) (w : World) (hS : SlT EditE w v xs) (hbig : xs.length ≤ 1000000000000) : Calls Try.prog 33 #[v] w (fun e w' => ∃ v', e = .returned v' ∧ Ext none' w w' ∧ NewT EditE 42 w w' v' (isort ltE xs)) := by
  refine enter (n := 9) Try.func33 rfl rfl (Nat.le_of_ble_eq_true rfl) ?_
  intro a0 τ0 ha st0
  have e0 : get a0 0 = v := ha 0 _ rfl
  clear ha
  have hle := hS.le
  refine wp_seq ?_
  refine region_St (bf := [0]) (sp := [
      (det (Nw w) 2 (.slice none 0 0))])
    [] mixed st0 (by kernel_rfl) trivial
    ⟨Ob.det rfl rfl rfl (fun _ a_ _ _ c => r_assign rfl rfl),
     trivial⟩ ?_
  intro a1 w1 τ1 st1 f1
  replace e0 := f1.old e0 (by kernel_rfl)
  have e2 : get a1 2 = (.slice none 0 0) := f1.v 0 rfl
  clear f1
  show Code.wp _ _ _ a1 w1
  refine wp_seq ?_
  refine region_St (bf := [0, 1, 3]) (sp := [
      (det (Nw w) 4 v),
        (own EditE 42 (Nw w) 0 5 (xs)),
        (own EditE 42 (Nw w) 0 3 (xs))])
    [] mixed st1 (by kernel_rfl) trivial
    ⟨Ob.det rfl rfl rfl (fun _ a_ _ _ c => r_move rfl (c.eo e0 (by kernel_rfl))),
       Ob.callOwn rfl rfl rfl (fun _ a_ _ _ c => ⟨_, _, (e_call1 rfl rfl Try.call38 (c.ev 0 rfl rfl)), editClone_c v xs _ (hS.at (st1.ext.trans c.J.ext)) (by omega)⟩),
       Ob.moveT (t0 := 5) rfl rfl rfl rfl rfl (.inr rfl) (fun _ _ _ _ c => ⟨c.rown 1 rfl rfl (by kernel_rfl), rfl⟩),
     trivial⟩ ?_
  intro a2 w2 τ2 st2 f2
  obtain ⟨b2x3, e3⟩ : ∃ b, get a2 3 = b := ⟨_, rfl⟩
  replace e2 := f2.old e2 (by kernel_rfl)
  have r0 : ownR EditE 42 (xs) (τ2 0) b2x3 w2 := f2.rown 2 rfl rfl e3
  clear f2
  show Code.wp _ _ _ a2 w2
  refine wp_seq ?_
  refine region_St (bf := [0, 1]) (sp := [
      (det (Nw w) 6 b2x3),
        (own EditE 42 (Nw w) 0 3 (isort ltE xs))])
    [(iown EditE 42 (Nw w) b2x3 (xs))] mixed st2 (by kernel_rfl) ⟨r0, trivial⟩
    ⟨Ob.det rfl rfl rfl (fun _ a_ _ _ c => r_move rfl (c.eo e3 (by kernel_rfl))),
       Ob.callIn rfl rfl rfl (by decide) (fun _ a_ _ _ c => ⟨_, _, (e_call2 rfl rfl Try.call39 (c.ev 0 rfl rfl) rfl), c.old e3 (by kernel_rfl), c.iown 0 rfl rfl (by kernel_rfl), fun ho_ => editSort_c b2x3 xs _ ho_ (by omega)⟩),
     trivial⟩ ?_
  intro a3 w3 τ3 st3 f3
  replace e2 := f3.old e2 (by kernel_rfl)
  replace e3 := f3.old e3 (by kernel_rfl)
  have r0 : ownR EditE 42 (isort ltE xs) (τ3 0) b2x3 w3 := f3.rown 1 rfl rfl e3
  clear f3
  show Code.wp _ _ _ a3 w3
  refine wp_seq ?_
  refine region_St (bf := [0, 1]) (sp := [
      (det (Nw w) 8 b2x3),
        (det (Nw w) 2 b2x3)])
    [(iown EditE 42 (Nw w) b2x3 (isort ltE xs))] mixed st3 (by kernel_rfl) ⟨r0, trivial⟩
    ⟨Ob.det rfl rfl rfl (fun _ a_ _ _ c => r_move rfl (c.eo e3 (by kernel_rfl))),
       Ob.det rfl rfl rfl (fun _ a_ _ _ c => r_assign rfl (c.ev 0 rfl rfl)),
     trivial⟩ ?_
  intro a4 w4 τ4 st4 f4
  have e2 : get a4 2 = b2x3 := f4.v 1 rfl
  replace r0 : ownR EditE 42 (isort ltE xs) (τ4 0) b2x3 w4 := f4.iown 0 rfl rfl
  clear f4
  show Code.wp _ _ _ a4 w4
  refine wp_ret ?_
  repeat (first | with_reducible refine then_ret ?_ | with_reducible refine block_ret ?_)
  refine ret1 (fn := Try.f33) rfl st4.defers e2 ?_
  exact ⟨_, rfl, st4.ext0, r0.1, fun g_ h_ => (st4.bnd _ g_ (r0.2 g_ h_)).1⟩

set_option maxRecDepth 100000 in
theorem reverse_c (v : Value) (xs : List (Int × Int × ByteArray)) (w : World) (ho : OwnT EditE 42 w v xs) (hbig : xs.length ≤ 1000000000000) : Calls Try.prog 34 #[v] w (fun e w' => e = .returned (.tuple #[]) ∧ OwnT EditE 42 w' v (xs.reverse) ∧ Ext (fun k => v.ownBlock = some k) w w') := by
  refine enterIn (fun g => v.ownBlock = some g) (fun g hg => ho.lt g hg) (n := 28) Try.func34 rfl rfl (Nat.le_of_ble_eq_true rfl) ?_
  intro a0 τ0 ha hτ st0
  have e0 : get a0 0 = v := ha 0 _ rfl
  clear ha
  have r0 : ownR EditE 42 xs (τ0 0) v w := ⟨ho, fun g hg => by rw [hτ]; exact hg⟩
  have hle := r0.le
  refine wp_seq ?_
  refine region_St (bf := [0, 1, 3, 0, 15]) (sp := [
      (det (fun k => v.ownBlock = some k ∨ w.heap.size ≤ k) 4 v),
        (det (fun k => v.ownBlock = some k ∨ w.heap.size ≤ k) 5 (.int .i64 ((xs.length : Int)))),
        (det (fun k => v.ownBlock = some k ∨ w.heap.size ≤ k) 6 (.int .i64 ((xs.length : Int) - 1))),
        (det (fun k => v.ownBlock = some k ∨ w.heap.size ≤ k) 2 (.int .i64 (0))),
        (det (fun k => v.ownBlock = some k ∨ w.heap.size ≤ k) 3 (.int .i64 ((xs.length : Int) - 1)))])
    [(iown EditE 42 (fun k => v.ownBlock = some k ∨ w.heap.size ≤ k) v (xs))] mixed st0 (by kernel_rfl) ⟨r0, trivial⟩
    ⟨Ob.det rfl rfl rfl (fun _ a_ _ _ c => r_move rfl (c.eo e0 (by kernel_rfl))),
       Ob.det rfl rfl rfl (fun _ a_ _ _ c => r_len rfl Try.underlying37 (c.ev 0 rfl rfl) r0.isSl),
       Ob.det rfl rfl rfl (fun _ a_ _ _ c => r_sub rfl (c.ev 1 rfl rfl) rfl (by omega)),
       Ob.det rfl rfl rfl (fun _ a_ _ _ c => r_assign rfl rfl),
       Ob.det rfl rfl rfl (fun _ a_ _ _ c => r_assign rfl (c.ev 2 rfl rfl)),
     trivial⟩ ?_
  intro a1 w1 τ1 st1 f1
  replace e0 := f1.old e0 (by kernel_rfl)
  have e2 : get a1 2 = (.int .i64 (0)) := f1.v 3 rfl
  have e3 : get a1 3 = (.int .i64 ((xs.length : Int) - 1)) := f1.v 4 rfl
  replace r0 : ownR EditE 42 (xs) (τ1 0) v w1 := f1.iown 0 rfl rfl
  clear f1
  show Code.wp _ _ _ a1 w1
  refine wp_block ?_
  refine wp_loop (fun a_ w_ => ∃ (n : Nat) (τ : Nat → Foot), (2 * n ≤ xs.length) ∧
        St (fun k => v.ownBlock = some k ∨ w.heap.size ≤ k) w 28 a_ w_ τ ∧
        get a_ 2 = (.int .i64 ((n : Int))) ∧
        get a_ 3 = (.int .i64 ((xs.length : Int) - 1 - (n : Int))) ∧
        get a_ 0 = v ∧
        ownR EditE 42 (revS xs n) (τ 0) v w_) (fun a_ _ => xs.length - (intOf (get a_ 2)).toNat) ?_ ?_
  · refine ⟨0, τ1, ?_, st1, (e2.trans (int_eq (by omega))), (e3.trans (int_eq (by omega))), e0, ?_⟩
    · omega
    · exact r0.cast (by rfl)
  intro a2 w2 hI
  obtain ⟨n, τ2, q0, st2, e2, e3, e0, r0⟩ := hI
  have hl := revS_len xs n
  have m2 := e2
  refine wp_seq ?_
  refine wp_seq ?_
  refine region_St (bf := [0, 0, 3]) (sp := [
      (det (fun k => v.ownBlock = some k ∨ w.heap.size ≤ k) 7 (.int .i64 ((n : Int)))),
        (det (fun k => v.ownBlock = some k ∨ w.heap.size ≤ k) 8 (.int .i64 ((xs.length : Int) - 1 - (n : Int)))),
        (det (fun k => v.ownBlock = some k ∨ w.heap.size ≤ k) 9 (.bool (decide ((n : Int) < (xs.length : Int) - 1 - (n : Int)))))])
    [(iown EditE 42 (fun k => v.ownBlock = some k ∨ w.heap.size ≤ k) v (revS xs n))] mixed st2 (by kernel_rfl) ⟨r0, trivial⟩
    ⟨Ob.det rfl rfl rfl (fun _ a_ _ _ c => r_move rfl (c.eo e2 (by kernel_rfl))),
       Ob.det rfl rfl rfl (fun _ a_ _ _ c => r_move rfl (c.eo e3 (by kernel_rfl))),
       Ob.det rfl rfl rfl (fun _ a_ _ _ c => r_lss rfl (c.ev 0 rfl rfl) (c.ev 1 rfl rfl)),
     trivial⟩ ?_
  intro a3 w3 τ3 st3 f3
  replace e0 := f3.old e0 (by kernel_rfl)
  replace e2 := f3.old e2 (by kernel_rfl)
  replace e3 := f3.old e3 (by kernel_rfl)
  have e9 : get a3 9 = (.bool (decide ((n : Int) < (xs.length : Int) - 1 - (n : Int)))) := f3.v 2 rfl
  replace r0 : ownR EditE 42 (revS xs n) (τ3 0) v w3 := f3.iown 0 rfl rfl
  clear f3
  show Code.wp _ _ _ a3 w3
  refine wp_cond_split (t := decide ((n : Int) < (xs.length : Int) - 1 - (n : Int))) e9 (fun hc1 => ?_) (fun hc1 => ?_)
  · try simp only [Bool.and_eq_true, Bool.or_eq_true, decide_eq_true_eq, decide_eq_false_iff_not, Bool.not_eq_true', Bool.and_eq_false_iff, Bool.or_eq_false_iff, Bool.not_eq_false', Int.not_lt, Int.not_le, beq_iff_eq, selB] at hc1
    refine wp_skip ?_
    show Code.wp _ _ _ a3 w3
    refine wp_seq ?_
    refine wp_block ?_
    refine region_St (bf := [0, 0, 0, 0, 0, 0, 48, 112, 0, 0, 768, 1792, 4083, 8179, 16383, 32767]) (sp := [
        (det (fun k => v.ownBlock = some k ∨ w.heap.size ≤ k) 14 v),
            (det (fun k => v.ownBlock = some k ∨ w.heap.size ≤ k) 15 (.int .i64 ((n : Int)))),
            (det (fun k => v.ownBlock = some k ∨ w.heap.size ≤ k) 16 v),
            (det (fun k => v.ownBlock = some k ∨ w.heap.size ≤ k) 17 (.int .i64 ((xs.length : Int) - 1 - (n : Int)))),
            (det (fun k => v.ownBlock = some k ∨ w.heap.size ≤ k) 18 v),
            (det (fun k => v.ownBlock = some k ∨ w.heap.size ≤ k) 19 (.int .i64 ((xs.length : Int) - 1 - (n : Int)))),
            (det (fun k => v.ownBlock = some k ∨ w.heap.size ≤ k) 20 (.pointer (some ((ptrOf v).add (((xs.length : Int) - 1 - (n : Int) : Int).toNat * 3))))),
            (det (fun k => v.ownBlock = some k ∨ w.heap.size ≤ k) 21 (.agg #[(.int .i64 ((nth (revS xs n) ((xs.length : Int) - 1 - (n : Int))).1)), (.int .i64 ((nth (revS xs n) ((xs.length : Int) - 1 - (n : Int))).2.1)), (.string ((nth (revS xs n) ((xs.length : Int) - 1 - (n : Int))).2.2))])),
            (det (fun k => v.ownBlock = some k ∨ w.heap.size ≤ k) 22 v),
            (det (fun k => v.ownBlock = some k ∨ w.heap.size ≤ k) 23 (.int .i64 ((n : Int)))),
            (det (fun k => v.ownBlock = some k ∨ w.heap.size ≤ k) 24 (.pointer (some ((ptrOf v).add (((n : Int) : Int).toNat * 3))))),
            (det (fun k => v.ownBlock = some k ∨ w.heap.size ≤ k) 25 (.agg #[(.int .i64 ((nth (revS xs n) ((n : Int))).1)), (.int .i64 ((nth (revS xs n) ((n : Int))).2.1)), (.string ((nth (revS xs n) ((n : Int))).2.2))])),
            (det (fun k => v.ownBlock = some k ∨ w.heap.size ≤ k) 26 (.pointer (some ((ptrOf v).add (((n : Int) : Int).toNat * 3))))),
            (own EditE 42 (fun k => v.ownBlock = some k ∨ w.heap.size ≤ k) 0 0 ((revS xs n).set ((n : Int)).toNat (nth (revS xs n) ((xs.length : Int) - 1 - (n : Int))))),
            (det (fun k => v.ownBlock = some k ∨ w.heap.size ≤ k) 27 (.pointer (some ((ptrOf v).add (((xs.length : Int) - 1 - (n : Int) : Int).toNat * 3))))),
            (own EditE 42 (fun k => v.ownBlock = some k ∨ w.heap.size ≤ k) 0 0 (((revS xs n).set ((n : Int)).toNat (nth (revS xs n) ((xs.length : Int) - 1 - (n : Int)))).set ((xs.length : Int) - 1 - (n : Int)).toNat (nth (revS xs n) ((n : Int)))))])
      [(iown EditE 42 (fun k => v.ownBlock = some k ∨ w.heap.size ≤ k) v (revS xs n))] mixed st3 (by kernel_rfl) ⟨r0, trivial⟩
      ⟨Ob.det rfl rfl rfl (fun _ a_ _ _ c => r_move rfl (c.eo e0 (by kernel_rfl))),
           Ob.det rfl rfl rfl (fun _ a_ _ _ c => r_move rfl (c.eo e2 (by kernel_rfl))),
           Ob.det rfl rfl rfl (fun _ a_ _ _ c => r_move rfl (c.eo e0 (by kernel_rfl))),
           Ob.det rfl rfl rfl (fun _ a_ _ _ c => r_move rfl (c.eo e3 (by kernel_rfl))),
           Ob.det rfl rfl rfl (fun _ a_ _ _ c => r_move rfl (c.eo e0 (by kernel_rfl))),
           Ob.det rfl rfl rfl (fun _ a_ _ _ c => r_move rfl (c.eo e3 (by kernel_rfl))),
           Ob.det rfl rfl rfl (fun _ a_ _ _ c => r_indexAddr rfl Try.underlying37 Try.sizeOf42 (c.ev 4 rfl rfl) r0.isSl (c.ev 5 rfl rfl) (by omega) (by omega)),
           Ob.det rfl rfl rfl (fun _ a_ _ _ c => r_loadN (vs := [(.int .i64 ((nth (revS xs n) ((xs.length : Int) - 1 - (n : Int))).1)), (.int .i64 ((nth (revS xs n) ((xs.length : Int) - 1 - (n : Int))).2.1)), (.string ((nth (revS xs n) ((xs.length : Int) - 1 - (n : Int))).2.2))]) rfl Try.isAgg42 Try.sizeOf42 (c.ev 6 rfl rfl) rfl (fun _ _ hj => ((c.iown 0 rfl rfl (by kernel_rfl)).1.sl).elem (nth_some (by omega) (by omega)) hj)),
           Ob.det rfl rfl rfl (fun _ a_ _ _ c => r_move rfl (c.eo e0 (by kernel_rfl))),
           Ob.det rfl rfl rfl (fun _ a_ _ _ c => r_move rfl (c.eo e2 (by kernel_rfl))),
           Ob.det rfl rfl rfl (fun _ a_ _ _ c => r_indexAddr rfl Try.underlying37 Try.sizeOf42 (c.ev 8 rfl rfl) r0.isSl (c.ev 9 rfl rfl) (by omega) (by omega)),
           Ob.det rfl rfl rfl (fun _ a_ _ _ c => r_loadN (vs := [(.int .i64 ((nth (revS xs n) ((n : Int))).1)), (.int .i64 ((nth (revS xs n) ((n : Int))).2.1)), (.string ((nth (revS xs n) ((n : Int))).2.2))]) rfl Try.isAgg42 Try.sizeOf42 (c.ev 10 rfl rfl) rfl (fun _ _ hj => ((c.iown 0 rfl rfl (by kernel_rfl)).1.sl).elem (nth_some (by omega) (by omega)) hj)),
           Ob.det rfl rfl rfl (fun _ a_ _ _ c => r_indexAddr rfl Try.underlying37 Try.sizeOf42 (c.ev 0 rfl rfl) r0.isSl (c.ev 1 rfl rfl) (by omega) (by omega)),
           Ob.storeElem (E := EditE) (i := ((n : Int)).toNat) (off := 0) (u := (.agg #[(.int .i64 ((nth (revS xs n) ((xs.length : Int) - 1 - (n : Int))).1)), (.int .i64 ((nth (revS xs n) ((xs.length : Int) - 1 - (n : Int))).2.1)), (.string ((nth (revS xs n) ((xs.length : Int) - 1 - (n : Int))).2.2))])) (x := nth (revS xs n) ((n : Int))) (x' := (nth (revS xs n) ((xs.length : Int) - 1 - (n : Int)))) rfl rfl rfl rfl Try.sizeOf42 (nth_some (by omega) (by (try simp only [List.length_set]); omega)) (Nat.le_of_ble_eq_true rfl) (by simp [Value.cells, Value.oneCell']) rfl (fun _ a_ _ _ c => ⟨by rw [(show get _ 0 = v from c.old e0 (by kernel_rfl))]; exact c.iown 0 rfl rfl (by kernel_rfl), (by rw [(c.ev 12 rfl rfl), (show get _ 0 = v from c.old e0 (by kernel_rfl))]; rfl), (c.ev 7 rfl rfl)⟩),
           Ob.det rfl rfl rfl (fun _ a_ _ _ c => r_indexAddr rfl Try.underlying37 Try.sizeOf42 (c.ev 2 rfl rfl) r0.isSl (c.ev 3 rfl rfl) (by omega) (by omega)),
           Ob.storeElem (E := EditE) (i := ((xs.length : Int) - 1 - (n : Int)).toNat) (off := 0) (u := (.agg #[(.int .i64 ((nth (revS xs n) ((n : Int))).1)), (.int .i64 ((nth (revS xs n) ((n : Int))).2.1)), (.string ((nth (revS xs n) ((n : Int))).2.2))])) (x := nth ((revS xs n).set ((n : Int)).toNat (nth (revS xs n) ((xs.length : Int) - 1 - (n : Int)))) ((xs.length : Int) - 1 - (n : Int))) (x' := (nth (revS xs n) ((n : Int)))) rfl rfl rfl rfl Try.sizeOf42 (nth_some (by omega) (by (try simp only [List.length_set]); omega)) (Nat.le_of_ble_eq_true rfl) (by simp [Value.cells, Value.oneCell']) rfl (fun _ a_ _ _ c => ⟨c.rown 13 rfl rfl (by kernel_rfl), (by rw [(c.ev 14 rfl rfl), (show get _ 0 = v from c.old e0 (by kernel_rfl))]; rfl), (c.ev 11 rfl rfl)⟩),
       trivial⟩ ?_
    intro a4 w4 τ4 st4 f4
    replace e0 := f4.old e0 (by kernel_rfl)
    replace e2 := f4.old e2 (by kernel_rfl)
    replace e3 := f4.old e3 (by kernel_rfl)
    replace e9 := f4.old e9 (by kernel_rfl)
    have r0 : ownR EditE 42 (((revS xs n).set ((n : Int)).toNat (nth (revS xs n) ((xs.length : Int) - 1 - (n : Int)))).set ((xs.length : Int) - 1 - (n : Int)).toNat (nth (revS xs n) ((n : Int)))) (τ4 0) v w4 := f4.rown 15 rfl rfl e0
    clear f4
    show _
    show Code.wp _ _ _ a4 w4
    refine region_St (bf := [0, 1, 0, 4, 3, 31]) (sp := [
        (det (fun k => v.ownBlock = some k ∨ w.heap.size ≤ k) 10 (.int .i64 ((n : Int)))),
            (det (fun k => v.ownBlock = some k ∨ w.heap.size ≤ k) 11 (.int .i64 ((n : Int) + 1))),
            (det (fun k => v.ownBlock = some k ∨ w.heap.size ≤ k) 12 (.int .i64 ((xs.length : Int) - 1 - (n : Int)))),
            (det (fun k => v.ownBlock = some k ∨ w.heap.size ≤ k) 13 (.int .i64 ((xs.length : Int) - 1 - (n : Int) - 1))),
            (det (fun k => v.ownBlock = some k ∨ w.heap.size ≤ k) 2 (.int .i64 ((n : Int) + 1))),
            (det (fun k => v.ownBlock = some k ∨ w.heap.size ≤ k) 3 (.int .i64 ((xs.length : Int) - 1 - (n : Int) - 1)))])
      [(iown EditE 42 (fun k => v.ownBlock = some k ∨ w.heap.size ≤ k) v (((revS xs n).set ((n : Int)).toNat (nth (revS xs n) ((xs.length : Int) - 1 - (n : Int)))).set ((xs.length : Int) - 1 - (n : Int)).toNat (nth (revS xs n) ((n : Int)))))] mixed st4 (by kernel_rfl) ⟨r0, trivial⟩
      ⟨Ob.det rfl rfl rfl (fun _ a_ _ _ c => r_move rfl (c.eo e2 (by kernel_rfl))),
           Ob.det rfl rfl rfl (fun _ a_ _ _ c => r_add rfl (c.ev 0 rfl rfl) rfl (by omega)),
           Ob.det rfl rfl rfl (fun _ a_ _ _ c => r_move rfl (c.eo e3 (by kernel_rfl))),
           Ob.det rfl rfl rfl (fun _ a_ _ _ c => r_sub rfl (c.ev 2 rfl rfl) rfl (by omega)),
           Ob.det rfl rfl rfl (fun _ a_ _ _ c => r_assign rfl (c.ev 1 rfl rfl)),
           Ob.det rfl rfl rfl (fun _ a_ _ _ c => r_assign rfl (c.ev 3 rfl rfl)),
       trivial⟩ ?_
    intro a5 w5 τ5 st5 f5
    replace e0 := f5.old e0 (by kernel_rfl)
    have e2 : get a5 2 = (.int .i64 ((n : Int) + 1)) := f5.v 4 rfl
    have e3 : get a5 3 = (.int .i64 ((xs.length : Int) - 1 - (n : Int) - 1)) := f5.v 5 rfl
    replace e9 := f5.old e9 (by kernel_rfl)
    replace r0 : ownR EditE 42 (((revS xs n).set ((n : Int)).toNat (nth (revS xs n) ((xs.length : Int) - 1 - (n : Int)))).set ((xs.length : Int) - 1 - (n : Int)).toNat (nth (revS xs n) ((n : Int)))) (τ5 0) v w5 := f5.iown 0 rfl rfl
    clear f5
    refine ⟨⟨n + 1, τ5, ?_, st5, (e2.trans (int_eq (by omega))), (e3.trans (int_eq (by omega))), e0, ?_⟩, ?_⟩
    · omega
    · exact r0.cast (by rfl)
    · simp only [m2, e2, intOf]; omega
  try simp only [Bool.and_eq_true, Bool.or_eq_true, decide_eq_true_eq, decide_eq_false_iff_not, Bool.not_eq_true', Bool.and_eq_false_iff, Bool.or_eq_false_iff, Bool.not_eq_false', Int.not_lt, Int.not_le, beq_iff_eq, selB] at hc1
  refine wp_exit ?_
  repeat (with_reducible refine then_exit ?_)
  refine exit_here ?_
  refine end0 (fn := Try.f34) rfl st3.defers ?_
  rw [revS_all (by omega) (by omega)] at r0
  exact ⟨rfl, r0.1, st3.extIn⟩

set_option maxRecDepth 100000 in
theorem moveE_c (n : Int) (r : Bool) (v : Value) (xs : List (Int × Int × ByteArray)) (w : World) (hS : SlT EditE w v xs) (hbig : xs.length ≤ 1000000000000) : Calls Try.prog 23 #[(.int .i64 (n)), (.bool (r)), v] w (fun e w' => e = .returned (.int .i64 (moveW n r xs)) ∧ Ext none' w w') := by
  refine enter (n := 55) Try.func23 rfl rfl (Nat.le_of_ble_eq_true rfl) ?_
  intro a0 τ0 ha st0
  have e0 : get a0 0 = (.int .i64 (n)) := ha 0 _ rfl
  have e1 : get a0 1 = (.bool (r)) := ha 1 _ rfl
  have e2 : get a0 2 = v := ha 2 _ rfl
  clear ha
  have hle := hS.le
  have hil := isort_length (lt := ltE) xs
  refine wp_seq ?_
  refine region_St (bf := [0]) (sp := [
      (det (Nw w) 6 (.int .i64 (0)))])
    [] mixed st0 (by kernel_rfl) trivial
    ⟨Ob.det rfl rfl rfl (fun _ a_ _ _ c => r_assign rfl rfl),
     trivial⟩ ?_
  intro a1 w1 τ1 st1 f1
  replace e0 := f1.old e0 (by kernel_rfl)
  replace e1 := f1.old e1 (by kernel_rfl)
  replace e2 := f1.old e2 (by kernel_rfl)
  have e6 : get a1 6 = (.int .i64 (0)) := f1.v 0 rfl
  clear f1
  show Code.wp _ _ _ a1 w1
  refine wp_seq ?_
  refine region_St (bf := [0, 1, 3]) (sp := [
      (det (Nw w) 10 v),
        (own EditE 42 (Nw w) 1 11 (isort ltE xs)),
        (own EditE 42 (Nw w) 1 7 (isort ltE xs))])
    [] mixed st1 (by kernel_rfl) trivial
    ⟨Ob.det rfl rfl rfl (fun _ a_ _ _ c => r_move rfl (c.eo e2 (by kernel_rfl))),
       Ob.callOwn rfl rfl rfl (fun _ a_ _ _ c => ⟨_, _, (e_call1 rfl rfl Try.call33 (c.ev 0 rfl rfl)), sortE_c v xs _ (hS.at (st1.ext.trans c.J.ext)) (by first | omega | (simp only [List.length_reverse] at *; omega) | (rw [hil]; omega))⟩),
       Ob.moveT (t0 := 11) rfl rfl rfl rfl rfl (.inr rfl) (fun _ _ _ _ c => ⟨c.rown 1 rfl rfl (by kernel_rfl), rfl⟩),
     trivial⟩ ?_
  intro a2 w2 τ2 st2 f2
  obtain ⟨b2x7, e7⟩ : ∃ b, get a2 7 = b := ⟨_, rfl⟩
  replace e0 := f2.old e0 (by kernel_rfl)
  replace e1 := f2.old e1 (by kernel_rfl)
  replace e6 := f2.old e6 (by kernel_rfl)
  have r1 : ownR EditE 42 (isort ltE xs) (τ2 1) b2x7 w2 := f2.rown 2 rfl rfl e7
  clear f2
  show Code.wp _ _ _ a2 w2
  refine wp_seq ?_
  refine region_St (bf := [0, 1]) (sp := [
      (det (Nw w) 12 b2x7),
        (own EditE 42 (Nw w) 1 7 ((isort ltE xs).reverse))])
    [(Ini.any (Nw w)), (iown EditE 42 (Nw w) b2x7 (isort ltE xs))] mixed st2 (by kernel_rfl) ⟨trivial, r1, trivial⟩
    ⟨Ob.det rfl rfl rfl (fun _ a_ _ _ c => r_move rfl (c.eo e7 (by kernel_rfl))),
       Ob.callIn rfl rfl rfl (by decide) (fun _ a_ _ _ c => ⟨_, _, (e_call1 rfl rfl Try.call34 (c.ev 0 rfl rfl)), c.old e7 (by kernel_rfl), c.iown 1 rfl rfl (by kernel_rfl), fun ho_ => reverse_c b2x7 (isort ltE xs) _ ho_ (by first | omega | (simp only [List.length_reverse] at *; omega) | (rw [hil]; omega))⟩),
     trivial⟩ ?_
  intro a3 w3 τ3 st3 f3
  replace e0 := f3.old e0 (by kernel_rfl)
  replace e1 := f3.old e1 (by kernel_rfl)
  replace e6 := f3.old e6 (by kernel_rfl)
  replace e7 := f3.old e7 (by kernel_rfl)
  have r1 : ownR EditE 42 ((isort ltE xs).reverse) (τ3 1) b2x7 w3 := f3.rown 1 rfl rfl e7
  clear f3
  show Code.wp _ _ _ a3 w3
  refine wp_seq ?_
  refine wp_seq ?_
  refine region_St (bf := [0, 1, 0]) (sp := [
      (det (Nw w) 14 b2x7),
        (det (Nw w) 15 (.int .i64 ((((isort ltE xs).reverse).length : Int)))),
        (det (Nw w) 16 (.int .i64 (0)))])
    [(Ini.any (Nw w)), (iown EditE 42 (Nw w) b2x7 ((isort ltE xs).reverse))] mixed st3 (by kernel_rfl) ⟨trivial, r1, trivial⟩
    ⟨Ob.det rfl rfl rfl (fun _ a_ _ _ c => r_move rfl (c.eo e7 (by kernel_rfl))),
       Ob.det rfl rfl rfl (fun _ a_ _ _ c => r_len rfl Try.underlying37 (c.ev 0 rfl rfl) r1.isSl),
       Ob.det rfl rfl rfl (fun _ a_ _ _ c => r_move rfl rfl),
     trivial⟩ ?_
  intro a4 w4 τ4 st4 f4
  replace e0 := f4.old e0 (by kernel_rfl)
  replace e1 := f4.old e1 (by kernel_rfl)
  replace e6 := f4.old e6 (by kernel_rfl)
  have e14 : get a4 14 = b2x7 := f4.v 0 rfl
  have e15 : get a4 15 = (.int .i64 ((((isort ltE xs).reverse).length : Int))) := f4.v 1 rfl
  have e16 : get a4 16 = (.int .i64 (0)) := f4.v 2 rfl
  replace r1 : ownR EditE 42 ((isort ltE xs).reverse) (τ4 1) b2x7 w4 := f4.iown 1 rfl rfl
  clear f4
  show Code.wp _ _ _ a4 w4
  refine wp_block ?_
  refine wp_loop (fun a_ w_ => ∃ (k : Nat) (τ : Nat → Foot), (k ≤ xs.length) ∧
        St (Nw w) w 55 a_ w_ τ ∧
        get a_ 0 = (.int .i64 (foldM n r ((isort ltE xs).reverse.take k))) ∧
        get a_ 16 = (.int .i64 ((k : Int))) ∧
        get a_ 1 = (.bool (r)) ∧
        get a_ 6 = (.int .i64 (0)) ∧
        get a_ 14 = b2x7 ∧
        get a_ 15 = (.int .i64 ((((isort ltE xs).reverse).length : Int))) ∧
        ownR EditE 42 ((isort ltE xs).reverse) (τ 1) b2x7 w_) (fun a_ _ => xs.length - (intOf (get a_ 16)).toNat) ?_ ?_
  · refine ⟨0, τ4, ?_, st4, (e0.trans (int_eq (by first | omega | rfl | exact foldM_lt (by omega) (by assumption) | exact foldM_gt (by omega) (by assumption) (by assumption) | exact foldM_in (by omega) (by assumption) (by assumption) (by assumption) | exact foldM_at (by omega) (by assumption) (by assumption) (by assumption)))), (e16.trans (int_eq (by first | omega | rfl | exact foldM_lt (by omega) (by assumption) | exact foldM_gt (by omega) (by assumption) (by assumption) | exact foldM_in (by omega) (by assumption) (by assumption) (by assumption) | exact foldM_at (by omega) (by assumption) (by assumption) (by assumption)))), e1, e6, e14, e15, r1⟩
    · omega
  intro a5 w5 hI
  obtain ⟨k, τ5, q0, st5, e0, e16, e1, e6, e14, e15, r1⟩ := hI
  have hrl := @List.length_reverse _ (isort ltE xs)
  have m16 := e16
  refine wp_seq ?_
  refine region_St (bf := [0]) (sp := [
      (det (Nw w) 17 (.bool (decide ((k : Int) < (((isort ltE xs).reverse).length : Int)))))])
    [(Ini.any (Nw w)), (iown EditE 42 (Nw w) b2x7 ((isort ltE xs).reverse))] mixed st5 (by kernel_rfl) ⟨trivial, r1, trivial⟩
    ⟨Ob.det rfl rfl rfl (fun _ a_ _ _ c => r_lss rfl (c.eo e16 (by kernel_rfl)) (c.eo e15 (by kernel_rfl))),
     trivial⟩ ?_
  intro a6 w6 τ6 st6 f6
  replace e0 := f6.old e0 (by kernel_rfl)
  replace e1 := f6.old e1 (by kernel_rfl)
  replace e6 := f6.old e6 (by kernel_rfl)
  replace e14 := f6.old e14 (by kernel_rfl)
  replace e15 := f6.old e15 (by kernel_rfl)
  replace e16 := f6.old e16 (by kernel_rfl)
  have e17 : get a6 17 = (.bool (decide ((k : Int) < (((isort ltE xs).reverse).length : Int)))) := f6.v 0 rfl
  replace r1 : ownR EditE 42 ((isort ltE xs).reverse) (τ6 1) b2x7 w6 := f6.iown 1 rfl rfl
  clear f6
  show Code.wp _ _ _ a6 w6
  refine wp_seq ?_
  refine wp_cond_split (t := decide ((k : Int) < (((isort ltE xs).reverse).length : Int))) e17 (fun hc1 => ?_) (fun hc1 => ?_)
  · try simp only [Bool.and_eq_true, Bool.or_eq_true, decide_eq_true_eq, decide_eq_false_iff_not, Bool.not_eq_true', Bool.and_eq_false_iff, Bool.or_eq_false_iff, Bool.not_eq_false', Int.not_lt, Int.not_le, beq_iff_eq, selB] at hc1
    refine wp_skip ?_
    show Code.wp _ _ _ a6 w6
    refine wp_seq ?_
    refine wp_block ?_
    refine wp_seq ?_
    refine region_St (bf := [0, 1, 0, 7]) (sp := [
        (det (Nw w) 18 (.pointer (some ((ptrOf b2x7).add (((k : Int) : Int).toNat * 3))))),
            (det (Nw w) 19 (.agg #[(.int .i64 ((nth ((isort ltE xs).reverse) ((k : Int))).1)), (.int .i64 ((nth ((isort ltE xs).reverse) ((k : Int))).2.1)), (.string ((nth ((isort ltE xs).reverse) ((k : Int))).2.2))])),
            (box 42 (Nw w) 2 9 [(.int .i64 (0)), (.int .i64 (0)), (.string (⟨#[]⟩))]),
            (box 42 (Nw w) 2 9 [(.int .i64 ((nth ((isort ltE xs).reverse) ((k : Int))).1)), (.int .i64 ((nth ((isort ltE xs).reverse) ((k : Int))).2.1)), (.string ((nth ((isort ltE xs).reverse) ((k : Int))).2.2))])])
      [(Ini.any (Nw w)), (iown EditE 42 (Nw w) b2x7 ((isort ltE xs).reverse))] mixed st6 (by kernel_rfl) ⟨trivial, r1, trivial⟩
      ⟨Ob.det rfl rfl rfl (fun _ a_ _ _ c => r_indexAddr rfl Try.underlying37 Try.sizeOf42 (c.eo e14 (by kernel_rfl)) r1.isSl (c.eo e16 (by kernel_rfl)) (by first | omega | (simp only [List.length_reverse] at *; omega) | (rw [hil]; omega)) (by first | omega | (simp only [List.length_reverse] at *; omega) | (rw [hil]; omega))),
           Ob.det rfl rfl rfl (fun _ a_ _ _ c => r_loadN (vs := [(.int .i64 ((nth ((isort ltE xs).reverse) ((k : Int))).1)), (.int .i64 ((nth ((isort ltE xs).reverse) ((k : Int))).2.1)), (.string ((nth ((isort ltE xs).reverse) ((k : Int))).2.2))]) rfl Try.isAgg42 Try.sizeOf42 (c.ev 0 rfl rfl) rfl (fun _ _ hj => ((c.iown 1 rfl rfl (by kernel_rfl)).1.sl).elem (nth_some (by first | omega | (simp only [List.length_reverse] at *; omega) | (rw [hil]; omega)) (by first | omega | (simp only [List.length_reverse] at *; omega) | (rw [hil]; omega))) hj)),
           Ob.alloc rfl rfl rfl rfl Try.zeroValue42 rfl,
           Ob.storeBox (off := 0) (v := (.agg #[(.int .i64 ((nth ((isort ltE xs).reverse) ((k : Int))).1)), (.int .i64 ((nth ((isort ltE xs).reverse) ((k : Int))).2.1)), (.string ((nth ((isort ltE xs).reverse) ((k : Int))).2.2))])) rfl rfl rfl rfl Try.sizeOf42 (Nat.le_of_ble_eq_true rfl) (by simp [Value.cells, Value.oneCell']) rfl (fun _ _ _ _ c => ⟨c.rbox 2 rfl rfl (by kernel_rfl), (c.rbox 2 rfl rfl (by kernel_rfl)).ptr, (c.ev 1 rfl rfl)⟩),
       trivial⟩ ?_
    intro a7 w7 τ7 st7 f7
    obtain ⟨b7x9, e9⟩ : ∃ b, get a7 9 = b := ⟨_, rfl⟩
    replace e0 := f7.old e0 (by kernel_rfl)
    replace e1 := f7.old e1 (by kernel_rfl)
    replace e6 := f7.old e6 (by kernel_rfl)
    replace e14 := f7.old e14 (by kernel_rfl)
    replace e15 := f7.old e15 (by kernel_rfl)
    replace e16 := f7.old e16 (by kernel_rfl)
    replace e17 := f7.old e17 (by kernel_rfl)
    replace r1 : ownR EditE 42 ((isort ltE xs).reverse) (τ7 1) b2x7 w7 := f7.iown 1 rfl rfl
    have r2 : boxR 42 [(.int .i64 ((nth ((isort ltE xs).reverse) ((k : Int))).1)), (.int .i64 ((nth ((isort ltE xs).reverse) ((k : Int))).2.1)), (.string ((nth ((isort ltE xs).reverse) ((k : Int))).2.2))] (τ7 2) b7x9 w7 := f7.rbox 3 rfl rfl e9
    clear f7
    show Code.wp _ _ _ a7 w7
    refine wp_block ?_
    refine wp_seq ?_
    refine region_St (bf := [0, 0, 2, 6, 15, 31]) (sp := [
        (det (Nw w) 24 (.int .i64 (foldM n r ((isort ltE xs).reverse.take k)))),
            (det (Nw w) 25 (.pointer (some ((ptrOf b7x9).add 0)))),
            (det (Nw w) 26 (.pointer (some (((ptrOf b7x9).add 0).add 0)))),
            (det (Nw w) 27 (.int .i64 ((nth ((isort ltE xs).reverse) ((k : Int))).1))),
            (det (Nw w) 28 (.bool (decide (foldM n r ((isort ltE xs).reverse.take k) < (nth ((isort ltE xs).reverse) ((k : Int))).1)))),
            (det (Nw w) 23 (.bool (decide (foldM n r ((isort ltE xs).reverse.take k) < (nth ((isort ltE xs).reverse) ((k : Int))).1))))])
      [(Ini.any (Nw w)), (iown EditE 42 (Nw w) b2x7 ((isort ltE xs).reverse)), (ibox 42 (Nw w) b7x9 [(.int .i64 ((nth ((isort ltE xs).reverse) ((k : Int))).1)), (.int .i64 ((nth ((isort ltE xs).reverse) ((k : Int))).2.1)), (.string ((nth ((isort ltE xs).reverse) ((k : Int))).2.2))])] mixed st7 (by kernel_rfl) ⟨trivial, r1, r2, trivial⟩
      ⟨Ob.det rfl rfl rfl (fun _ a_ _ _ c => r_move rfl (c.eo e0 (by kernel_rfl))),
           Ob.det rfl rfl rfl (fun _ a_ _ _ c => r_fieldAddr rfl Try.underlying42 rfl rfl Try.sizeOf39 ((c.eo e9 (by kernel_rfl)).trans r2.ptr)),
           Ob.det rfl rfl rfl (fun _ a_ _ _ c => r_fieldAddr rfl Try.underlying39 rfl rfl Try.sizeOf3 (c.ev 1 rfl rfl)),
           Ob.det rfl rfl rfl (fun _ a_ _ _ c => r_load1 rfl Try.isAgg3 (c.ev 2 rfl rfl) (by rw [add_add]; exact (c.ibox 2 rfl rfl (by kernel_rfl)).cell (j := 0) rfl)),
           Ob.det rfl rfl rfl (fun _ a_ _ _ c => r_lss rfl (c.ev 0 rfl rfl) (c.ev 3 rfl rfl)),
           Ob.det rfl rfl rfl (fun _ a_ _ _ c => r_assign rfl (c.ev 4 rfl rfl)),
       trivial⟩ ?_
    intro a8 w8 τ8 st8 f8
    replace e0 := f8.old e0 (by kernel_rfl)
    replace e1 := f8.old e1 (by kernel_rfl)
    replace e6 := f8.old e6 (by kernel_rfl)
    replace e9 := f8.old e9 (by kernel_rfl)
    replace e14 := f8.old e14 (by kernel_rfl)
    replace e15 := f8.old e15 (by kernel_rfl)
    replace e16 := f8.old e16 (by kernel_rfl)
    replace e17 := f8.old e17 (by kernel_rfl)
    have e23 : get a8 23 = (.bool (decide (foldM n r ((isort ltE xs).reverse.take k) < (nth ((isort ltE xs).reverse) ((k : Int))).1))) := f8.v 5 rfl
    replace r1 : ownR EditE 42 ((isort ltE xs).reverse) (τ8 1) b2x7 w8 := f8.iown 1 rfl rfl
    replace r2 : boxR 42 [(.int .i64 ((nth ((isort ltE xs).reverse) ((k : Int))).1)), (.int .i64 ((nth ((isort ltE xs).reverse) ((k : Int))).2.1)), (.string ((nth ((isort ltE xs).reverse) ((k : Int))).2.2))] (τ8 2) b7x9 w8 := f8.ibox 2 rfl rfl
    clear f8
    show Code.wp _ _ _ a8 w8
    refine wp_cond_split (t := decide (foldM n r ((isort ltE xs).reverse.take k) < (nth ((isort ltE xs).reverse) ((k : Int))).1)) e23 (fun hc2 => ?_) (fun hc2 => ?_)
    · try simp only [Bool.and_eq_true, Bool.or_eq_true, decide_eq_true_eq, decide_eq_false_iff_not, Bool.not_eq_true', Bool.and_eq_false_iff, Bool.or_eq_false_iff, Bool.not_eq_false', Int.not_lt, Int.not_le, beq_iff_eq, selB] at hc2
      refine wp_skip ?_
      show _
      show _
      show Code.wp _ _ _ a8 w8
      refine region_St (bf := [0, 1]) (sp := [
          (det (Nw w) 53 (.int .i64 ((k : Int) + 1))),
                (det (Nw w) 16 (.int .i64 ((k : Int) + 1)))])
        [(Ini.any (Nw w)), (iown EditE 42 (Nw w) b2x7 ((isort ltE xs).reverse)), (ibox 42 (Nw w) b7x9 [(.int .i64 ((nth ((isort ltE xs).reverse) ((k : Int))).1)), (.int .i64 ((nth ((isort ltE xs).reverse) ((k : Int))).2.1)), (.string ((nth ((isort ltE xs).reverse) ((k : Int))).2.2))])] mixed st8 (by kernel_rfl) ⟨trivial, r1, r2, trivial⟩
        ⟨Ob.det rfl rfl rfl (fun _ a_ _ _ c => r_add rfl (c.eo e16 (by kernel_rfl)) rfl (by first | omega | (simp only [List.length_reverse] at *; omega) | (rw [hil]; omega))),
               Ob.det rfl rfl rfl (fun _ a_ _ _ c => r_move rfl (c.ev 0 rfl rfl)),
         trivial⟩ ?_
      intro a9 w9 τ9 st9 f9
      replace e0 := f9.old e0 (by kernel_rfl)
      replace e1 := f9.old e1 (by kernel_rfl)
      replace e6 := f9.old e6 (by kernel_rfl)
      replace e9 := f9.old e9 (by kernel_rfl)
      replace e14 := f9.old e14 (by kernel_rfl)
      replace e15 := f9.old e15 (by kernel_rfl)
      have e16 : get a9 16 = (.int .i64 ((k : Int) + 1)) := f9.v 1 rfl
      replace e17 := f9.old e17 (by kernel_rfl)
      replace e23 := f9.old e23 (by kernel_rfl)
      replace r1 : ownR EditE 42 ((isort ltE xs).reverse) (τ9 1) b2x7 w9 := f9.iown 1 rfl rfl
      replace r2 : boxR 42 [(.int .i64 ((nth ((isort ltE xs).reverse) ((k : Int))).1)), (.int .i64 ((nth ((isort ltE xs).reverse) ((k : Int))).2.1)), (.string ((nth ((isort ltE xs).reverse) ((k : Int))).2.2))] (τ9 2) b7x9 w9 := f9.ibox 2 rfl rfl
      clear f9
      refine ⟨⟨k + 1, τ9, ?_, st9, (e0.trans (int_eq (by first | omega | rfl | exact foldM_lt (by omega) (by assumption) | exact foldM_gt (by omega) (by assumption) (by assumption) | exact foldM_in (by omega) (by assumption) (by assumption) (by assumption) | exact foldM_at (by omega) (by assumption) (by assumption) (by assumption)))), (e16.trans (int_eq (by first | omega | rfl | exact foldM_lt (by omega) (by assumption) | exact foldM_gt (by omega) (by assumption) (by assumption) | exact foldM_in (by omega) (by assumption) (by assumption) (by assumption) | exact foldM_at (by omega) (by assumption) (by assumption) (by assumption)))), e1, e6, e14, e15, r1⟩, ?_⟩
      · omega
      · simp only [m16, e16, intOf]; omega
    try simp only [Bool.and_eq_true, Bool.or_eq_true, decide_eq_true_eq, decide_eq_false_iff_not, Bool.not_eq_true', Bool.and_eq_false_iff, Bool.or_eq_false_iff, Bool.not_eq_false', Int.not_lt, Int.not_le, beq_iff_eq, selB] at hc2
    refine wp_seq ?_
    refine region_St (bf := [0, 0, 2, 6, 15, 31]) (sp := [
        (det (Nw w) 30 (.int .i64 (foldM n r ((isort ltE xs).reverse.take k)))),
            (det (Nw w) 31 (.pointer (some ((ptrOf b7x9).add 0)))),
            (det (Nw w) 32 (.pointer (some (((ptrOf b7x9).add 0).add 1)))),
            (det (Nw w) 33 (.int .i64 ((nth ((isort ltE xs).reverse) ((k : Int))).2.1))),
            (det (Nw w) 34 (.bool (decide ((nth ((isort ltE xs).reverse) ((k : Int))).2.1 < foldM n r ((isort ltE xs).reverse.take k))))),
            (det (Nw w) 29 (.bool (decide ((nth ((isort ltE xs).reverse) ((k : Int))).2.1 < foldM n r ((isort ltE xs).reverse.take k)))))])
      [(Ini.any (Nw w)), (iown EditE 42 (Nw w) b2x7 ((isort ltE xs).reverse)), (ibox 42 (Nw w) b7x9 [(.int .i64 ((nth ((isort ltE xs).reverse) ((k : Int))).1)), (.int .i64 ((nth ((isort ltE xs).reverse) ((k : Int))).2.1)), (.string ((nth ((isort ltE xs).reverse) ((k : Int))).2.2))])] mixed st8 (by kernel_rfl) ⟨trivial, r1, r2, trivial⟩
      ⟨Ob.det rfl rfl rfl (fun _ a_ _ _ c => r_move rfl (c.eo e0 (by kernel_rfl))),
           Ob.det rfl rfl rfl (fun _ a_ _ _ c => r_fieldAddr rfl Try.underlying42 rfl rfl Try.sizeOf39 ((c.eo e9 (by kernel_rfl)).trans r2.ptr)),
           Ob.det rfl rfl rfl (fun _ a_ _ _ c => r_fieldAddr rfl Try.underlying39 rfl rfl Try.sizeOf3 (c.ev 1 rfl rfl)),
           Ob.det rfl rfl rfl (fun _ a_ _ _ c => r_load1 rfl Try.isAgg3 (c.ev 2 rfl rfl) (by rw [add_add]; exact (c.ibox 2 rfl rfl (by kernel_rfl)).cell (j := 1) rfl)),
           Ob.det rfl rfl rfl (fun _ a_ _ _ c => r_gtr rfl (c.ev 0 rfl rfl) (c.ev 3 rfl rfl)),
           Ob.det rfl rfl rfl (fun _ a_ _ _ c => r_assign rfl (c.ev 4 rfl rfl)),
       trivial⟩ ?_
    intro a10 w10 τ10 st10 f10
    replace e0 := f10.old e0 (by kernel_rfl)
    replace e1 := f10.old e1 (by kernel_rfl)
    replace e6 := f10.old e6 (by kernel_rfl)
    replace e9 := f10.old e9 (by kernel_rfl)
    replace e14 := f10.old e14 (by kernel_rfl)
    replace e15 := f10.old e15 (by kernel_rfl)
    replace e16 := f10.old e16 (by kernel_rfl)
    replace e17 := f10.old e17 (by kernel_rfl)
    replace e23 := f10.old e23 (by kernel_rfl)
    have e29 : get a10 29 = (.bool (decide ((nth ((isort ltE xs).reverse) ((k : Int))).2.1 < foldM n r ((isort ltE xs).reverse.take k)))) := f10.v 5 rfl
    replace r1 : ownR EditE 42 ((isort ltE xs).reverse) (τ10 1) b2x7 w10 := f10.iown 1 rfl rfl
    replace r2 : boxR 42 [(.int .i64 ((nth ((isort ltE xs).reverse) ((k : Int))).1)), (.int .i64 ((nth ((isort ltE xs).reverse) ((k : Int))).2.1)), (.string ((nth ((isort ltE xs).reverse) ((k : Int))).2.2))] (τ10 2) b7x9 w10 := f10.ibox 2 rfl rfl
    clear f10
    show Code.wp _ _ _ a10 w10
    refine wp_cond_split (t := decide ((nth ((isort ltE xs).reverse) ((k : Int))).2.1 < foldM n r ((isort ltE xs).reverse.take k))) e29 (fun hc3 => ?_) (fun hc3 => ?_)
    · try simp only [Bool.and_eq_true, Bool.or_eq_true, decide_eq_true_eq, decide_eq_false_iff_not, Bool.not_eq_true', Bool.and_eq_false_iff, Bool.or_eq_false_iff, Bool.not_eq_false', Int.not_lt, Int.not_le, beq_iff_eq, selB] at hc3
      refine region_St (bf := [0, 0, 2, 6, 0, 16, 48, 126, 255, 511]) (sp := [
          (det (Nw w) 35 (.int .i64 (foldM n r ((isort ltE xs).reverse.take k)))),
                (det (Nw w) 36 (.pointer (some ((ptrOf b7x9).add 2)))),
                (det (Nw w) 37 (.string ((nth ((isort ltE xs).reverse) ((k : Int))).2.2))),
                (det (Nw w) 38 (.int .i64 ((((nth ((isort ltE xs).reverse) ((k : Int))).2.2).size : Int)))),
                (det (Nw w) 39 (.pointer (some ((ptrOf b7x9).add 0)))),
                (det (Nw w) 40 (.agg #[(.int .i64 ((nth ((isort ltE xs).reverse) ((k : Int))).1)), (.int .i64 ((nth ((isort ltE xs).reverse) ((k : Int))).2.1))])),
                (det (Nw w) 41 (.int .i64 (lenW ((nth ((isort ltE xs).reverse) ((k : Int))).1, (nth ((isort ltE xs).reverse) ((k : Int))).2.1)))),
                (det (Nw w) 42 (.int .i64 (IntKind.i64.wrap ((((nth ((isort ltE xs).reverse) ((k : Int))).2.2).size : Int) - (lenW ((nth ((isort ltE xs).reverse) ((k : Int))).1, (nth ((isort ltE xs).reverse) ((k : Int))).2.1)))))),
                (det (Nw w) 43 (.int .i64 (IntKind.i64.wrap (foldM n r ((isort ltE xs).reverse.take k) + (IntKind.i64.wrap ((((nth ((isort ltE xs).reverse) ((k : Int))).2.2).size : Int) - (lenW ((nth ((isort ltE xs).reverse) ((k : Int))).1, (nth ((isort ltE xs).reverse) ((k : Int))).2.1)))))))),
                (det (Nw w) 0 (.int .i64 (IntKind.i64.wrap (foldM n r ((isort ltE xs).reverse.take k) + (IntKind.i64.wrap ((((nth ((isort ltE xs).reverse) ((k : Int))).2.2).size : Int) - (lenW ((nth ((isort ltE xs).reverse) ((k : Int))).1, (nth ((isort ltE xs).reverse) ((k : Int))).2.1))))))))])
        [(Ini.any (Nw w)), (iown EditE 42 (Nw w) b2x7 ((isort ltE xs).reverse)), (ibox 42 (Nw w) b7x9 [(.int .i64 ((nth ((isort ltE xs).reverse) ((k : Int))).1)), (.int .i64 ((nth ((isort ltE xs).reverse) ((k : Int))).2.1)), (.string ((nth ((isort ltE xs).reverse) ((k : Int))).2.2))])] mixed st10 (by kernel_rfl) ⟨trivial, r1, r2, trivial⟩
        ⟨Ob.det rfl rfl rfl (fun _ a_ _ _ c => r_move rfl (c.eo e0 (by kernel_rfl))),
               Ob.det rfl rfl rfl (fun _ a_ _ _ c => r_fieldAddr rfl Try.underlying42 rfl rfl Try.sizeOf9 ((c.eo e9 (by kernel_rfl)).trans r2.ptr)),
               Ob.det rfl rfl rfl (fun _ a_ _ _ c => r_load1 rfl Try.isAgg9 (c.ev 1 rfl rfl) ((c.ibox 2 rfl rfl (by kernel_rfl)).cell (j := 2) rfl)),
               Ob.det rfl rfl rfl (fun _ a_ _ _ c => r_lenS rfl Try.underlying9 (c.ev 2 rfl rfl)),
               Ob.det rfl rfl rfl (fun _ a_ _ _ c => r_fieldAddr rfl Try.underlying42 rfl rfl Try.sizeOf39 ((c.eo e9 (by kernel_rfl)).trans r2.ptr)),
               Ob.det rfl rfl rfl (fun _ a_ _ _ c => r_loadN (vs := [(.int .i64 ((nth ((isort ltE xs).reverse) ((k : Int))).1)), (.int .i64 ((nth ((isort ltE xs).reverse) ((k : Int))).2.1))]) rfl Try.isAgg39 Try.sizeOf39 (c.ev 4 rfl rfl) rfl (fun j_ _ hj => by rw [add_add]; exact (c.ibox 2 rfl rfl (by kernel_rfl)).cell (j := 0 + j_) (part_cells (l := [(.int .i64 ((nth ((isort ltE xs).reverse) ((k : Int))).1)), (.int .i64 ((nth ((isort ltE xs).reverse) ((k : Int))).2.1)), (.string ((nth ((isort ltE xs).reverse) ((k : Int))).2.2))]) (o := 0) (n := 2) rfl hj))),
               Ob.call rfl rfl rfl (fun _ a_ _ _ c => ⟨_, _, (e_call1 rfl rfl Try.call35 (c.ev 5 rfl rfl)), len_c ((nth ((isort ltE xs).reverse) ((k : Int))).1, (nth ((isort ltE xs).reverse) ((k : Int))).2.1) _⟩),
               Ob.det rfl rfl rfl (fun _ a_ _ _ c => r_subW rfl (c.ev 3 rfl rfl) (c.ev 6 rfl rfl)),
               Ob.det rfl rfl rfl (fun _ a_ _ _ c => r_addW rfl (c.ev 0 rfl rfl) (c.ev 7 rfl rfl)),
               Ob.det rfl rfl rfl (fun _ a_ _ _ c => r_assign rfl (c.ev 8 rfl rfl)),
         trivial⟩ ?_
      intro a11 w11 τ11 st11 f11
      have e0 : get a11 0 = (.int .i64 (IntKind.i64.wrap (foldM n r ((isort ltE xs).reverse.take k) + (IntKind.i64.wrap ((((nth ((isort ltE xs).reverse) ((k : Int))).2.2).size : Int) - (lenW ((nth ((isort ltE xs).reverse) ((k : Int))).1, (nth ((isort ltE xs).reverse) ((k : Int))).2.1))))))) := f11.v 9 rfl
      replace e1 := f11.old e1 (by kernel_rfl)
      replace e6 := f11.old e6 (by kernel_rfl)
      replace e9 := f11.old e9 (by kernel_rfl)
      replace e14 := f11.old e14 (by kernel_rfl)
      replace e15 := f11.old e15 (by kernel_rfl)
      replace e16 := f11.old e16 (by kernel_rfl)
      replace e17 := f11.old e17 (by kernel_rfl)
      replace e23 := f11.old e23 (by kernel_rfl)
      replace e29 := f11.old e29 (by kernel_rfl)
      replace r1 : ownR EditE 42 ((isort ltE xs).reverse) (τ11 1) b2x7 w11 := f11.iown 1 rfl rfl
      replace r2 : boxR 42 [(.int .i64 ((nth ((isort ltE xs).reverse) ((k : Int))).1)), (.int .i64 ((nth ((isort ltE xs).reverse) ((k : Int))).2.1)), (.string ((nth ((isort ltE xs).reverse) ((k : Int))).2.2))] (τ11 2) b7x9 w11 := f11.ibox 2 rfl rfl
      clear f11
      show _
      show _
      show Code.wp _ _ _ a11 w11
      refine region_St (bf := [0, 1]) (sp := [
          (det (Nw w) 53 (.int .i64 ((k : Int) + 1))),
                (det (Nw w) 16 (.int .i64 ((k : Int) + 1)))])
        [(Ini.any (Nw w)), (iown EditE 42 (Nw w) b2x7 ((isort ltE xs).reverse)), (ibox 42 (Nw w) b7x9 [(.int .i64 ((nth ((isort ltE xs).reverse) ((k : Int))).1)), (.int .i64 ((nth ((isort ltE xs).reverse) ((k : Int))).2.1)), (.string ((nth ((isort ltE xs).reverse) ((k : Int))).2.2))])] mixed st11 (by kernel_rfl) ⟨trivial, r1, r2, trivial⟩
        ⟨Ob.det rfl rfl rfl (fun _ a_ _ _ c => r_add rfl (c.eo e16 (by kernel_rfl)) rfl (by first | omega | (simp only [List.length_reverse] at *; omega) | (rw [hil]; omega))),
               Ob.det rfl rfl rfl (fun _ a_ _ _ c => r_move rfl (c.ev 0 rfl rfl)),
         trivial⟩ ?_
      intro a12 w12 τ12 st12 f12
      replace e0 := f12.old e0 (by kernel_rfl)
      replace e1 := f12.old e1 (by kernel_rfl)
      replace e6 := f12.old e6 (by kernel_rfl)
      replace e9 := f12.old e9 (by kernel_rfl)
      replace e14 := f12.old e14 (by kernel_rfl)
      replace e15 := f12.old e15 (by kernel_rfl)
      have e16 : get a12 16 = (.int .i64 ((k : Int) + 1)) := f12.v 1 rfl
      replace e17 := f12.old e17 (by kernel_rfl)
      replace e23 := f12.old e23 (by kernel_rfl)
      replace e29 := f12.old e29 (by kernel_rfl)
      replace r1 : ownR EditE 42 ((isort ltE xs).reverse) (τ12 1) b2x7 w12 := f12.iown 1 rfl rfl
      replace r2 : boxR 42 [(.int .i64 ((nth ((isort ltE xs).reverse) ((k : Int))).1)), (.int .i64 ((nth ((isort ltE xs).reverse) ((k : Int))).2.1)), (.string ((nth ((isort ltE xs).reverse) ((k : Int))).2.2))] (τ12 2) b7x9 w12 := f12.ibox 2 rfl rfl
      clear f12
      refine ⟨⟨k + 1, τ12, ?_, st12, (e0.trans (int_eq (by first | omega | rfl | exact foldM_lt (by omega) (by assumption) | exact foldM_gt (by omega) (by assumption) (by assumption) | exact foldM_in (by omega) (by assumption) (by assumption) (by assumption) | exact foldM_at (by omega) (by assumption) (by assumption) (by assumption)))), (e16.trans (int_eq (by first | omega | rfl | exact foldM_lt (by omega) (by assumption) | exact foldM_gt (by omega) (by assumption) (by assumption) | exact foldM_in (by omega) (by assumption) (by assumption) (by assumption) | exact foldM_at (by omega) (by assumption) (by assumption) (by assumption)))), e1, e6, e14, e15, r1⟩, ?_⟩
      · omega
      · simp only [m16, e16, intOf]; omega
    try simp only [Bool.and_eq_true, Bool.or_eq_true, decide_eq_true_eq, decide_eq_false_iff_not, Bool.not_eq_true', Bool.and_eq_false_iff, Bool.or_eq_false_iff, Bool.not_eq_false', Int.not_lt, Int.not_le, beq_iff_eq, selB] at hc3
    refine wp_seq ?_
    refine region_St (bf := [0, 1]) (sp := [
        (det (Nw w) 45 (.bool (r))),
            (det (Nw w) 44 (.bool (r)))])
      [(Ini.any (Nw w)), (iown EditE 42 (Nw w) b2x7 ((isort ltE xs).reverse)), (ibox 42 (Nw w) b7x9 [(.int .i64 ((nth ((isort ltE xs).reverse) ((k : Int))).1)), (.int .i64 ((nth ((isort ltE xs).reverse) ((k : Int))).2.1)), (.string ((nth ((isort ltE xs).reverse) ((k : Int))).2.2))])] mixed st10 (by kernel_rfl) ⟨trivial, r1, r2, trivial⟩
      ⟨Ob.det rfl rfl rfl (fun _ a_ _ _ c => r_move rfl (c.eo e1 (by kernel_rfl))),
           Ob.det rfl rfl rfl (fun _ a_ _ _ c => r_assign rfl (c.ev 0 rfl rfl)),
       trivial⟩ ?_
    intro a13 w13 τ13 st13 f13
    replace e0 := f13.old e0 (by kernel_rfl)
    replace e1 := f13.old e1 (by kernel_rfl)
    replace e6 := f13.old e6 (by kernel_rfl)
    replace e9 := f13.old e9 (by kernel_rfl)
    replace e14 := f13.old e14 (by kernel_rfl)
    replace e15 := f13.old e15 (by kernel_rfl)
    replace e16 := f13.old e16 (by kernel_rfl)
    replace e17 := f13.old e17 (by kernel_rfl)
    replace e23 := f13.old e23 (by kernel_rfl)
    replace e29 := f13.old e29 (by kernel_rfl)
    have e44 : get a13 44 = (.bool (r)) := f13.v 1 rfl
    replace r1 : ownR EditE 42 ((isort ltE xs).reverse) (τ13 1) b2x7 w13 := f13.iown 1 rfl rfl
    replace r2 : boxR 42 [(.int .i64 ((nth ((isort ltE xs).reverse) ((k : Int))).1)), (.int .i64 ((nth ((isort ltE xs).reverse) ((k : Int))).2.1)), (.string ((nth ((isort ltE xs).reverse) ((k : Int))).2.2))] (τ13 2) b7x9 w13 := f13.ibox 2 rfl rfl
    clear f13
    show Code.wp _ _ _ a13 w13
    refine wp_cond_split (t := r) e44 (fun hc4 => ?_) (fun hc4 => ?_)
    · try simp only [Bool.and_eq_true, Bool.or_eq_true, decide_eq_true_eq, decide_eq_false_iff_not, Bool.not_eq_true', Bool.and_eq_false_iff, Bool.or_eq_false_iff, Bool.not_eq_false', Int.not_lt, Int.not_le, beq_iff_eq, selB] at hc4
      refine region_St (bf := [0, 1, 3, 0, 8, 24, 63, 127]) (sp := [
          (det (Nw w) 46 (.pointer (some ((ptrOf b7x9).add 0)))),
                (det (Nw w) 47 (.pointer (some (((ptrOf b7x9).add 0).add 0)))),
                (det (Nw w) 48 (.int .i64 ((nth ((isort ltE xs).reverse) ((k : Int))).1))),
                (det (Nw w) 49 (.pointer (some ((ptrOf b7x9).add 2)))),
                (det (Nw w) 50 (.string ((nth ((isort ltE xs).reverse) ((k : Int))).2.2))),
                (det (Nw w) 51 (.int .i64 ((((nth ((isort ltE xs).reverse) ((k : Int))).2.2).size : Int)))),
                (det (Nw w) 52 (.int .i64 (IntKind.i64.wrap ((nth ((isort ltE xs).reverse) ((k : Int))).1 + (((nth ((isort ltE xs).reverse) ((k : Int))).2.2).size : Int))))),
                (det (Nw w) 0 (.int .i64 (IntKind.i64.wrap ((nth ((isort ltE xs).reverse) ((k : Int))).1 + (((nth ((isort ltE xs).reverse) ((k : Int))).2.2).size : Int)))))])
        [(Ini.any (Nw w)), (iown EditE 42 (Nw w) b2x7 ((isort ltE xs).reverse)), (ibox 42 (Nw w) b7x9 [(.int .i64 ((nth ((isort ltE xs).reverse) ((k : Int))).1)), (.int .i64 ((nth ((isort ltE xs).reverse) ((k : Int))).2.1)), (.string ((nth ((isort ltE xs).reverse) ((k : Int))).2.2))])] mixed st13 (by kernel_rfl) ⟨trivial, r1, r2, trivial⟩
        ⟨Ob.det rfl rfl rfl (fun _ a_ _ _ c => r_fieldAddr rfl Try.underlying42 rfl rfl Try.sizeOf39 ((c.eo e9 (by kernel_rfl)).trans r2.ptr)),
               Ob.det rfl rfl rfl (fun _ a_ _ _ c => r_fieldAddr rfl Try.underlying39 rfl rfl Try.sizeOf3 (c.ev 0 rfl rfl)),
               Ob.det rfl rfl rfl (fun _ a_ _ _ c => r_load1 rfl Try.isAgg3 (c.ev 1 rfl rfl) (by rw [add_add]; exact (c.ibox 2 rfl rfl (by kernel_rfl)).cell (j := 0) rfl)),
               Ob.det rfl rfl rfl (fun _ a_ _ _ c => r_fieldAddr rfl Try.underlying42 rfl rfl Try.sizeOf9 ((c.eo e9 (by kernel_rfl)).trans r2.ptr)),
               Ob.det rfl rfl rfl (fun _ a_ _ _ c => r_load1 rfl Try.isAgg9 (c.ev 3 rfl rfl) ((c.ibox 2 rfl rfl (by kernel_rfl)).cell (j := 2) rfl)),
               Ob.det rfl rfl rfl (fun _ a_ _ _ c => r_lenS rfl Try.underlying9 (c.ev 4 rfl rfl)),
               Ob.det rfl rfl rfl (fun _ a_ _ _ c => r_addW rfl (c.ev 2 rfl rfl) (c.ev 5 rfl rfl)),
               Ob.det rfl rfl rfl (fun _ a_ _ _ c => r_assign rfl (c.ev 6 rfl rfl)),
         trivial⟩ ?_
      intro a14 w14 τ14 st14 f14
      have e0 : get a14 0 = (.int .i64 (IntKind.i64.wrap ((nth ((isort ltE xs).reverse) ((k : Int))).1 + (((nth ((isort ltE xs).reverse) ((k : Int))).2.2).size : Int)))) := f14.v 7 rfl
      replace e1 := f14.old e1 (by kernel_rfl)
      replace e6 := f14.old e6 (by kernel_rfl)
      replace e9 := f14.old e9 (by kernel_rfl)
      replace e14 := f14.old e14 (by kernel_rfl)
      replace e15 := f14.old e15 (by kernel_rfl)
      replace e16 := f14.old e16 (by kernel_rfl)
      replace e17 := f14.old e17 (by kernel_rfl)
      replace e23 := f14.old e23 (by kernel_rfl)
      replace e29 := f14.old e29 (by kernel_rfl)
      replace e44 := f14.old e44 (by kernel_rfl)
      replace r1 : ownR EditE 42 ((isort ltE xs).reverse) (τ14 1) b2x7 w14 := f14.iown 1 rfl rfl
      replace r2 : boxR 42 [(.int .i64 ((nth ((isort ltE xs).reverse) ((k : Int))).1)), (.int .i64 ((nth ((isort ltE xs).reverse) ((k : Int))).2.1)), (.string ((nth ((isort ltE xs).reverse) ((k : Int))).2.2))] (τ14 2) b7x9 w14 := f14.ibox 2 rfl rfl
      clear f14
      show _
      show _
      show Code.wp _ _ _ a14 w14
      refine region_St (bf := [0, 1]) (sp := [
          (det (Nw w) 53 (.int .i64 ((k : Int) + 1))),
                (det (Nw w) 16 (.int .i64 ((k : Int) + 1)))])
        [(Ini.any (Nw w)), (iown EditE 42 (Nw w) b2x7 ((isort ltE xs).reverse)), (ibox 42 (Nw w) b7x9 [(.int .i64 ((nth ((isort ltE xs).reverse) ((k : Int))).1)), (.int .i64 ((nth ((isort ltE xs).reverse) ((k : Int))).2.1)), (.string ((nth ((isort ltE xs).reverse) ((k : Int))).2.2))])] mixed st14 (by kernel_rfl) ⟨trivial, r1, r2, trivial⟩
        ⟨Ob.det rfl rfl rfl (fun _ a_ _ _ c => r_add rfl (c.eo e16 (by kernel_rfl)) rfl (by first | omega | (simp only [List.length_reverse] at *; omega) | (rw [hil]; omega))),
               Ob.det rfl rfl rfl (fun _ a_ _ _ c => r_move rfl (c.ev 0 rfl rfl)),
         trivial⟩ ?_
      intro a15 w15 τ15 st15 f15
      replace e0 := f15.old e0 (by kernel_rfl)
      replace e1 := f15.old e1 (by kernel_rfl)
      replace e6 := f15.old e6 (by kernel_rfl)
      replace e9 := f15.old e9 (by kernel_rfl)
      replace e14 := f15.old e14 (by kernel_rfl)
      replace e15 := f15.old e15 (by kernel_rfl)
      have e16 : get a15 16 = (.int .i64 ((k : Int) + 1)) := f15.v 1 rfl
      replace e17 := f15.old e17 (by kernel_rfl)
      replace e23 := f15.old e23 (by kernel_rfl)
      replace e29 := f15.old e29 (by kernel_rfl)
      replace e44 := f15.old e44 (by kernel_rfl)
      replace r1 : ownR EditE 42 ((isort ltE xs).reverse) (τ15 1) b2x7 w15 := f15.iown 1 rfl rfl
      replace r2 : boxR 42 [(.int .i64 ((nth ((isort ltE xs).reverse) ((k : Int))).1)), (.int .i64 ((nth ((isort ltE xs).reverse) ((k : Int))).2.1)), (.string ((nth ((isort ltE xs).reverse) ((k : Int))).2.2))] (τ15 2) b7x9 w15 := f15.ibox 2 rfl rfl
      clear f15
      refine ⟨⟨k + 1, τ15, ?_, st15, (e0.trans (int_eq (by first | omega | rfl | exact foldM_lt (by omega) (by assumption) | exact foldM_gt (by omega) (by assumption) (by assumption) | exact foldM_in (by omega) (by assumption) (by assumption) (by assumption) | exact foldM_at (by omega) (by assumption) (by assumption) (by assumption)))), (e16.trans (int_eq (by first | omega | rfl | exact foldM_lt (by omega) (by assumption) | exact foldM_gt (by omega) (by assumption) (by assumption) | exact foldM_in (by omega) (by assumption) (by assumption) (by assumption) | exact foldM_at (by omega) (by assumption) (by assumption) (by assumption)))), e1, e6, e14, e15, r1⟩, ?_⟩
      · omega
      · simp only [m16, e16, intOf]; omega
    try simp only [Bool.and_eq_true, Bool.or_eq_true, decide_eq_true_eq, decide_eq_false_iff_not, Bool.not_eq_true', Bool.and_eq_false_iff, Bool.or_eq_false_iff, Bool.not_eq_false', Int.not_lt, Int.not_le, beq_iff_eq, selB] at hc4
    refine region_St (bf := [0, 1, 3, 7]) (sp := [
        (det (Nw w) 20 (.pointer (some ((ptrOf b7x9).add 0)))),
            (det (Nw w) 21 (.pointer (some (((ptrOf b7x9).add 0).add 0)))),
            (det (Nw w) 22 (.int .i64 ((nth ((isort ltE xs).reverse) ((k : Int))).1))),
            (det (Nw w) 0 (.int .i64 ((nth ((isort ltE xs).reverse) ((k : Int))).1)))])
      [(Ini.any (Nw w)), (iown EditE 42 (Nw w) b2x7 ((isort ltE xs).reverse)), (ibox 42 (Nw w) b7x9 [(.int .i64 ((nth ((isort ltE xs).reverse) ((k : Int))).1)), (.int .i64 ((nth ((isort ltE xs).reverse) ((k : Int))).2.1)), (.string ((nth ((isort ltE xs).reverse) ((k : Int))).2.2))])] mixed st13 (by kernel_rfl) ⟨trivial, r1, r2, trivial⟩
      ⟨Ob.det rfl rfl rfl (fun _ a_ _ _ c => r_fieldAddr rfl Try.underlying42 rfl rfl Try.sizeOf39 ((c.eo e9 (by kernel_rfl)).trans r2.ptr)),
           Ob.det rfl rfl rfl (fun _ a_ _ _ c => r_fieldAddr rfl Try.underlying39 rfl rfl Try.sizeOf3 (c.ev 0 rfl rfl)),
           Ob.det rfl rfl rfl (fun _ a_ _ _ c => r_load1 rfl Try.isAgg3 (c.ev 1 rfl rfl) (by rw [add_add]; exact (c.ibox 2 rfl rfl (by kernel_rfl)).cell (j := 0) rfl)),
           Ob.det rfl rfl rfl (fun _ a_ _ _ c => r_assign rfl (c.ev 2 rfl rfl)),
       trivial⟩ ?_
    intro a16 w16 τ16 st16 f16
    have e0 : get a16 0 = (.int .i64 ((nth ((isort ltE xs).reverse) ((k : Int))).1)) := f16.v 3 rfl
    replace e1 := f16.old e1 (by kernel_rfl)
    replace e6 := f16.old e6 (by kernel_rfl)
    replace e9 := f16.old e9 (by kernel_rfl)
    replace e14 := f16.old e14 (by kernel_rfl)
    replace e15 := f16.old e15 (by kernel_rfl)
    replace e16 := f16.old e16 (by kernel_rfl)
    replace e17 := f16.old e17 (by kernel_rfl)
    replace e23 := f16.old e23 (by kernel_rfl)
    replace e29 := f16.old e29 (by kernel_rfl)
    replace e44 := f16.old e44 (by kernel_rfl)
    replace r1 : ownR EditE 42 ((isort ltE xs).reverse) (τ16 1) b2x7 w16 := f16.iown 1 rfl rfl
    replace r2 : boxR 42 [(.int .i64 ((nth ((isort ltE xs).reverse) ((k : Int))).1)), (.int .i64 ((nth ((isort ltE xs).reverse) ((k : Int))).2.1)), (.string ((nth ((isort ltE xs).reverse) ((k : Int))).2.2))] (τ16 2) b7x9 w16 := f16.ibox 2 rfl rfl
    clear f16
    show _
    show _
    show Code.wp _ _ _ a16 w16
    refine region_St (bf := [0, 1]) (sp := [
        (det (Nw w) 53 (.int .i64 ((k : Int) + 1))),
            (det (Nw w) 16 (.int .i64 ((k : Int) + 1)))])
      [(Ini.any (Nw w)), (iown EditE 42 (Nw w) b2x7 ((isort ltE xs).reverse)), (ibox 42 (Nw w) b7x9 [(.int .i64 ((nth ((isort ltE xs).reverse) ((k : Int))).1)), (.int .i64 ((nth ((isort ltE xs).reverse) ((k : Int))).2.1)), (.string ((nth ((isort ltE xs).reverse) ((k : Int))).2.2))])] mixed st16 (by kernel_rfl) ⟨trivial, r1, r2, trivial⟩
      ⟨Ob.det rfl rfl rfl (fun _ a_ _ _ c => r_add rfl (c.eo e16 (by kernel_rfl)) rfl (by first | omega | (simp only [List.length_reverse] at *; omega) | (rw [hil]; omega))),
           Ob.det rfl rfl rfl (fun _ a_ _ _ c => r_move rfl (c.ev 0 rfl rfl)),
       trivial⟩ ?_
    intro a17 w17 τ17 st17 f17
    replace e0 := f17.old e0 (by kernel_rfl)
    replace e1 := f17.old e1 (by kernel_rfl)
    replace e6 := f17.old e6 (by kernel_rfl)
    replace e9 := f17.old e9 (by kernel_rfl)
    replace e14 := f17.old e14 (by kernel_rfl)
    replace e15 := f17.old e15 (by kernel_rfl)
    have e16 : get a17 16 = (.int .i64 ((k : Int) + 1)) := f17.v 1 rfl
    replace e17 := f17.old e17 (by kernel_rfl)
    replace e23 := f17.old e23 (by kernel_rfl)
    replace e29 := f17.old e29 (by kernel_rfl)
    replace e44 := f17.old e44 (by kernel_rfl)
    replace r1 : ownR EditE 42 ((isort ltE xs).reverse) (τ17 1) b2x7 w17 := f17.iown 1 rfl rfl
    replace r2 : boxR 42 [(.int .i64 ((nth ((isort ltE xs).reverse) ((k : Int))).1)), (.int .i64 ((nth ((isort ltE xs).reverse) ((k : Int))).2.1)), (.string ((nth ((isort ltE xs).reverse) ((k : Int))).2.2))] (τ17 2) b7x9 w17 := f17.ibox 2 rfl rfl
    clear f17
    refine ⟨⟨k + 1, τ17, ?_, st17, (e0.trans (int_eq (by first | omega | rfl | exact foldM_lt (by omega) (by assumption) | exact foldM_gt (by omega) (by assumption) (by assumption) | exact foldM_in (by omega) (by assumption) (by assumption) (by assumption) | exact foldM_at (by omega) (by assumption) (by assumption) (by assumption)))), (e16.trans (int_eq (by first | omega | rfl | exact foldM_lt (by omega) (by assumption) | exact foldM_gt (by omega) (by assumption) (by assumption) | exact foldM_in (by omega) (by assumption) (by assumption) (by assumption) | exact foldM_at (by omega) (by assumption) (by assumption) (by assumption)))), e1, e6, e14, e15, r1⟩, ?_⟩
    · omega
    · simp only [m16, e16, intOf]; omega
  try simp only [Bool.and_eq_true, Bool.or_eq_true, decide_eq_true_eq, decide_eq_false_iff_not, Bool.not_eq_true', Bool.and_eq_false_iff, Bool.or_eq_false_iff, Bool.not_eq_false', Int.not_lt, Int.not_le, beq_iff_eq, selB] at hc1
  refine wp_exit ?_
  repeat (with_reducible refine then_exit ?_)
  refine exit_here ?_
  show Code.wp _ _ _ a6 w6
  refine wp_seq ?_
  refine region_St (bf := [0, 1]) (sp := [
      (det (Nw w) 54 (.int .i64 (foldM n r ((isort ltE xs).reverse.take k)))),
        (det (Nw w) 6 (.int .i64 (foldM n r ((isort ltE xs).reverse.take k))))])
    [(Ini.any (Nw w)), (iown EditE 42 (Nw w) b2x7 ((isort ltE xs).reverse))] mixed st6 (by kernel_rfl) ⟨trivial, r1, trivial⟩
    ⟨Ob.det rfl rfl rfl (fun _ a_ _ _ c => r_move rfl (c.eo e0 (by kernel_rfl))),
       Ob.det rfl rfl rfl (fun _ a_ _ _ c => r_assign rfl (c.ev 0 rfl rfl)),
     trivial⟩ ?_
  intro a18 w18 τ18 st18 f18
  have e6 : get a18 6 = (.int .i64 (foldM n r ((isort ltE xs).reverse.take k))) := f18.v 1 rfl
  clear f18
  show Code.wp _ _ _ a18 w18
  refine wp_ret ?_
  repeat (first | with_reducible refine then_ret ?_ | with_reducible refine block_ret ?_)
  refine ret1 (fn := Try.f23) rfl st18.defers e6 ?_
  exact ⟨congrArg _ (int_eq (by rw [moveW, List.take_of_length_le (by simp only [List.length_reverse]; omega)])), st18.ext0⟩
end B
end Go.Proofs.Ytjapbdofhbfmfaa
