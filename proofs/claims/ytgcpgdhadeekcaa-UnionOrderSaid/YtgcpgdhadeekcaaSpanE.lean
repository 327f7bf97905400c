/-
  Walks, printed by a program (gen.py): SpanE.
-/
import Derived.Test.YtgcpgdhadeekcaaSpanD
import Derived.Test.YtgcpgdhadeekcaaBase7
set_option linter.unusedSimpArgs false
set_option linter.unusedVariables false
namespace Go.Proofs.Ytgcpgdhadeekcaa
namespace B
open Go.RowKit
open Srt
def okB (p : Int × Int) : Bool := decide (p.1 ≤ p.2)
theorem filter_t {α : Type} [Inhabited α] {f : α → Bool} {xs : List α} {k : Nat} (h : k < xs.length) (hp : f (nth xs (k : Int)) = true) : (xs.take (k + 1)).filter f = (xs.take k).filter f ++ [nth xs (k : Int)] := by
  rw [take_snoc h, List.filter_append]; simp [hp]
theorem filter_f {α : Type} [Inhabited α] {f : α → Bool} {xs : List α} {k : Nat} (h : k < xs.length) (hp : f (nth xs (k : Int)) = false) : (xs.take (k + 1)).filter f = (xs.take k).filter f := by
  rw [take_snoc h, List.filter_append]; simp [hp]
theorem filter_le {α : Type} {f : α → Bool} {xs : List α} {k : Nat} : ((xs.take k).filter f).length ≤ xs.length := by
  have h1 := List.length_filter_le f (xs.take k)
  have h2 := List.length_take_le k xs
  have h3 := List.length_take_le' k xs
  omega
theorem sort_filter_le (xs : List (Int × Int)) : (isort ltS (xs.filter okB)).length ≤ xs.length := by
  rw [isort_length]; exact List.length_filter_le _ _
/-- does p go together with the last one? -/
def joinHit (acc : List (Int × Int)) (p : Int × Int) : Bool := decide (0 ≤ (acc.length : Int) - 1) && touchB (nth acc ((acc.length : Int) - 1)) p
def joinStep (acc : List (Int × Int)) (p : Int × Int) : List (Int × Int) :=
  if joinHit acc p = true then acc.set ((acc.length : Int) - 1).toNat ((nth acc ((acc.length : Int) - 1)).1, max (nth acc ((acc.length : Int) - 1)).2 p.2) else acc ++ [p]
def joinF (xs : List (Int × Int)) : List (Int × Int) := xs.foldl joinStep []
theorem joinF_snoc (xs : List (Int × Int)) (p : Int × Int) : joinF (xs ++ [p]) = joinStep (joinF xs) p := by simp [joinF]
theorem joinF_hit {xs : List (Int × Int)} {k : Nat} (h : k < xs.length) (hc : joinHit (joinF (xs.take k)) (nth xs (k : Int)) = true) :
    joinF (xs.take (k + 1)) = (joinF (xs.take k)).set (((joinF (xs.take k)).length : Int) - 1).toNat ((nth (joinF (xs.take k)) (((joinF (xs.take k)).length : Int) - 1)).1, max (nth (joinF (xs.take k)) (((joinF (xs.take k)).length : Int) - 1)).2 (nth xs (k : Int)).2) := by
  rw [take_snoc h, joinF_snoc, joinStep, if_pos hc]
theorem joinF_miss {xs : List (Int × Int)} {k : Nat} (h : k < xs.length) (hc : joinHit (joinF (xs.take k)) (nth xs (k : Int)) = false) : joinF (xs.take (k + 1)) = joinF (xs.take k) ++ [nth xs (k : Int)] := by
  rw [take_snoc h, joinF_snoc, joinStep, if_neg (by rw [hc]; decide)]
theorem joinF_le (xs : List (Int × Int)) : (joinF xs).length ≤ xs.length := by
  induction xs using snoc_ind with
  | h0 => simp [joinF]
  | h1 xs x ih =>
    rw [joinF_snoc, joinStep]
    split
    · simp; omega
    · simp; omega
theorem joinF_take {xs : List (Int × Int)} {k : Nat} : (joinF (xs.take k)).length ≤ k := by
  have h1 := joinF_le (xs.take k)
  have h2 := List.length_take_le k xs
  omega
def unionF (xs : List (Int × Int)) : List (Int × Int) := joinF (isort ltS (xs.filter okB))
def badS (ss : List (Int × Int)) (i : Int) : Bool := decide ((nth ss i).2 < (nth ss i).1) || (decide (0 < i) && (decide ((nth ss i).1 = (nth ss (i - 1)).1) || decide ((nth ss i).1 < (nth ss (i - 1)).2)))
def apartF (ss : List (Int × Int)) : Bool := (List.range ss.length).all fun i => !badS ss (i : Int)
theorem upto_succ {f : Int → Bool} {k : Nat} (h : ∀ i < k, f ((i : Nat) : Int) = false) (h2 : f (k : Int) = false) : ∀ i < k + 1, f ((i : Nat) : Int) = false := by
  intro i hi
  by_cases e : i = k
  · subst e; exact h2
  · exact h i (by omega)
theorem apartF_no {ss : List (Int × Int)} {k : Nat} (h : k < ss.length) (hb : badS ss (k : Int) = true) : apartF ss = false := by
  unfold apartF
  rw [List.all_eq_false]
  exact ⟨k, by simpa using h, by simp [hb]⟩
theorem apartF_yes {ss : List (Int × Int)} {k : Nat} (h : ∀ i < k, badS ss ((i : Nat) : Int) = false) (hk : ss.length ≤ k) : apartF ss = true := by
  unfold apartF
  rw [List.all_eq_true]
  intro i hi
  simp at hi
  simp [h i (by omega)]
set_option maxRecDepth 100000 in
theorem spanClone_c (v : Value) (xs : List (Int × Int)) (w : World) (hS : SlT SpanE w v xs) (hbig : xs.length ≤ 1000000000000) : Calls Try.prog 31 #[v] w (fun e w' => ∃ v', e = .returned v' ∧ Ext none' w w' ∧ NewT SpanE 29 w w' v' (xs)) := by
  refine enter (n := 8) Try.func31 rfl rfl (Nat.le_of_ble_eq_true rfl) ?_
  intro a0 τ0 ha st0
  have e0 : get a0 0 = v := ha 0 _ rfl
  clear ha
  have hle := hS.le
  refine wp_seq ?_
  refine region_St (bf := [0]) (sp := [
      (det (Nw w) 2 (.slice none 0 0))])
    [] mixed st0 (by kernel_rfl) trivial
    ⟨Ob.det rfl rfl rfl (fun _ a_ _ _ c => r_assign rfl rfl),
     trivial⟩ ?_
  intro a1 w1 τ1 st1 f1
  replace e0 := f1.old e0 (by kernel_rfl)
  have e2 : get a1 2 = (.slice none 0 0) := f1.v 0 rfl
  clear f1
  show Code.wp _ _ _ a1 w1
  refine wp_seq ?_
  refine wp_seq ?_
  refine region_St (bf := [0, 1]) (sp := [
      (det (Nw w) 3 v),
        (det (Nw w) 4 (.bool (isNil v)))])
    [] mixed st1 (by kernel_rfl) trivial
    ⟨Ob.det rfl rfl rfl (fun _ a_ _ _ c => r_move rfl (c.eo e0 (by kernel_rfl))),
       Ob.det rfl rfl rfl (fun _ a_ _ _ c => r_isNil rfl Try.underlying22 (c.ev 0 rfl rfl) hS.sl),
     trivial⟩ ?_
  intro a2 w2 τ2 st2 f2
  replace e0 := f2.old e0 (by kernel_rfl)
  replace e2 := f2.old e2 (by kernel_rfl)
  have e4 : get a2 4 = (.bool (isNil v)) := f2.v 1 rfl
  clear f2
  show Code.wp _ _ _ a2 w2
  refine wp_cond_split (t := isNil v) e4 (fun hc1 => ?_) (fun hc1 => ?_)
  · try simp only [Bool.and_eq_true, Bool.or_eq_true, decide_eq_true_eq, decide_eq_false_iff_not, Bool.not_eq_true', Bool.and_eq_false_iff, Bool.or_eq_false_iff, Bool.not_eq_false', Int.not_lt, Int.not_le, beq_iff_eq, spanB] at hc1
    refine wp_seq ?_
    refine region_St (bf := [0]) (sp := [
        (det (Nw w) 2 (.slice none 0 0))])
      [] mixed st2 (by kernel_rfl) trivial
      ⟨Ob.det rfl rfl rfl (fun _ a_ _ _ c => r_assign rfl rfl),
       trivial⟩ ?_
    intro a3 w3 τ3 st3 f3
    replace e0 := f3.old e0 (by kernel_rfl)
    have e2 : get a3 2 = (.slice none 0 0) := f3.v 0 rfl
    replace e4 := f3.old e4 (by kernel_rfl)
    clear f3
    show Code.wp _ _ _ a3 w3
    refine wp_ret ?_
    repeat (first | with_reducible refine then_ret ?_ | with_reducible refine block_ret ?_)
    refine ret1 (fn := Try.f31) rfl st3.defers e2 ?_
    obtain rfl := hS.isNil (by assumption)
    exact ⟨_, rfl, st3.ext0, OwnT.nil _ _ _, fun g_ h_ => by simp [Value.ownBlock] at h_⟩
  · try simp only [Bool.and_eq_true, Bool.or_eq_true, decide_eq_true_eq, decide_eq_false_iff_not, Bool.not_eq_true', Bool.and_eq_false_iff, Bool.or_eq_false_iff, Bool.not_eq_false', Int.not_lt, Int.not_le, beq_iff_eq, spanB] at hc1
    refine wp_skip ?_
    show Code.wp _ _ _ a2 w2
    refine wp_seq ?_
    refine region_St (bf := [0, 0, 3, 7]) (sp := [
        (own SpanE 29 (Nw w) 0 5 ([])),
            (det (Nw w) 6 v),
            (own SpanE 29 (Nw w) 0 7 (([]) ++ xs)),
            (own SpanE 29 (Nw w) 0 2 (([]) ++ xs))])
      [] mixed st2 (by kernel_rfl) trivial
      ⟨Ob.buildEmpty rfl rfl rfl rfl Try.underlying22 Try.sizeOf29,
           Ob.det rfl rfl rfl (fun _ a_ _ _ c => r_move rfl (c.eo e0 (by kernel_rfl))),
           Ob.append (t0 := 5) rfl rfl rfl rfl Try.underlying22 (i := Try.t29) rfl rfl rfl rfl (by simp only [maxLen]; (try simp); omega) (by show _ * 16 ≤ _; (try simp); omega) (fun _ _ _ _ c => ⟨c.rown 0 rfl rfl (by kernel_rfl), rfl, ⟨_, (c.ev 1 rfl rfl), (hS.at (st2.ext.trans c.J.ext))⟩⟩),
           Ob.moveT (t0 := 7) rfl rfl rfl rfl rfl (.inr rfl) (fun _ _ _ _ c => ⟨c.rown 2 rfl rfl (by kernel_rfl), rfl⟩),
       trivial⟩ ?_
    intro a4 w4 τ4 st4 f4
    obtain ⟨b4x2, e2⟩ : ∃ b, get a4 2 = b := ⟨_, rfl⟩
    replace e0 := f4.old e0 (by kernel_rfl)
    replace e4 := f4.old e4 (by kernel_rfl)
    have r0 : ownR SpanE 29 (([]) ++ xs) (τ4 0) b4x2 w4 := f4.rown 3 rfl rfl e2
    clear f4
    show Code.wp _ _ _ a4 w4
    refine wp_ret ?_
    repeat (first | with_reducible refine then_ret ?_ | with_reducible refine block_ret ?_)
    refine ret1 (fn := Try.f31) rfl st4.defers e2 ?_
    replace r0 := r0.cast (show xs = _ from by rfl)
    exact ⟨_, rfl, st4.ext0, r0.1, fun g_ h_ => (st4.bnd _ g_ (r0.2 g_ h_)).1⟩

set_option maxRecDepth 100000 in
theorem union_c (v : Value) (xs : List (Int × Int)) (w : World) (hS : SlT SpanE w v xs) (hbig : xs.length ≤ 1000000000000) : Calls Try.prog 13 #[v] w (fun e w' => ∃ v', e = .returned v' ∧ Ext none' w w' ∧ NewT SpanE 29 w w' v' (unionF xs)) := by
  refine enter (n := 65) Try.func13 rfl rfl (Nat.le_of_ble_eq_true rfl) ?_
  intro a0 τ0 ha st0
  have e0 : get a0 0 = v := ha 0 _ rfl
  clear ha
  have hle := hS.le
  refine wp_seq ?_
  refine region_St (bf := [0]) (sp := [
      (det (Nw w) 2 (.slice none 0 0))])
    [] mixed st0 (by kernel_rfl) trivial
    ⟨Ob.det rfl rfl rfl (fun _ a_ _ _ c => r_assign rfl rfl),
     trivial⟩ ?_
  intro a1 w1 τ1 st1 f1
  replace e0 := f1.old e0 (by kernel_rfl)
  have e2 : get a1 2 = (.slice none 0 0) := f1.v 0 rfl
  clear f1
  show Code.wp _ _ _ a1 w1
  refine wp_seq ?_
  refine region_St (bf := [0]) (sp := [
      (det (Nw w) 3 (.slice none 0 0))])
    [] mixed st1 (by kernel_rfl) trivial
    ⟨Ob.det rfl rfl rfl (fun _ a_ _ _ c => r_assign rfl rfl),
     trivial⟩ ?_
  intro a2 w2 τ2 st2 f2
  replace e0 := f2.old e0 (by kernel_rfl)
  replace e2 := f2.old e2 (by kernel_rfl)
  have e3 : get a2 3 = (.slice none 0 0) := f2.v 0 rfl
  clear f2
  show Code.wp _ _ _ a2 w2
  refine wp_seq ?_
  refine wp_seq ?_
  refine region_St (bf := [0, 1, 0]) (sp := [
      (det (Nw w) 10 v),
        (det (Nw w) 11 (.int .i64 ((xs.length : Int)))),
        (det (Nw w) 12 (.int .i64 (0)))])
    [] mixed st2 (by kernel_rfl) trivial
    ⟨Ob.det rfl rfl rfl (fun _ a_ _ _ c => r_move rfl (c.eo e0 (by kernel_rfl))),
       Ob.det rfl rfl rfl (fun _ a_ _ _ c => r_len rfl Try.underlying22 (c.ev 0 rfl rfl) hS.sl),
       Ob.det rfl rfl rfl (fun _ a_ _ _ c => r_move rfl rfl),
     trivial⟩ ?_
  intro a3 w3 τ3 st3 f3
  replace e0 := f3.old e0 (by kernel_rfl)
  replace e2 := f3.old e2 (by kernel_rfl)
  replace e3 := f3.old e3 (by kernel_rfl)
  have e10 : get a3 10 = v := f3.v 0 rfl
  have e11 : get a3 11 = (.int .i64 ((xs.length : Int))) := f3.v 1 rfl
  have e12 : get a3 12 = (.int .i64 (0)) := f3.v 2 rfl
  clear f3
  show Code.wp _ _ _ a3 w3
  refine wp_block ?_
  refine wp_loop (fun a_ w_ => ∃ (k : Nat) (u : Value) (τ : Nat → Foot), (k ≤ xs.length) ∧
        St (Nw w) w 65 a_ w_ τ ∧
        get a_ 3 = u ∧
        get a_ 12 = (.int .i64 ((k : Int))) ∧
        get a_ 0 = v ∧
        get a_ 2 = (.slice none 0 0) ∧
        get a_ 10 = v ∧
        get a_ 11 = (.int .i64 ((xs.length : Int))) ∧
        ownR SpanE 29 ((xs.take k).filter okB) (τ 0) u w_) (fun a_ _ => xs.length - (intOf (get a_ 12)).toNat) ?_ ?_
  · refine ⟨0, (.slice none 0 0), τ3, ?_, st3, e3, (e12.trans (int_eq (by omega))), e0, e2, e10, e11, ?_⟩
    · omega
    · exact ownR.nil _ _ _ _
  · intro a4 w4 hI
    obtain ⟨k, u, τ4, q0, st4, e3, e12, e0, e2, e10, e11, r0⟩ := hI
    have hfl := filter_le (f := okB) (xs := xs) (k := k)
    have m12 := e12
    refine wp_seq ?_
    refine region_St (bf := [0]) (sp := [
        (det (Nw w) 13 (.bool (decide ((k : Int) < (xs.length : Int)))))])
      [(iown SpanE 29 (Nw w) u ((xs.take k).filter okB))] mixed st4 (by kernel_rfl) ⟨r0, trivial⟩
      ⟨Ob.det rfl rfl rfl (fun _ a_ _ _ c => r_lss rfl (c.eo e12 (by kernel_rfl)) (c.eo e11 (by kernel_rfl))),
       trivial⟩ ?_
    intro a5 w5 τ5 st5 f5
    replace e0 := f5.old e0 (by kernel_rfl)
    replace e2 := f5.old e2 (by kernel_rfl)
    replace e3 := f5.old e3 (by kernel_rfl)
    replace e10 := f5.old e10 (by kernel_rfl)
    replace e11 := f5.old e11 (by kernel_rfl)
    replace e12 := f5.old e12 (by kernel_rfl)
    have e13 : get a5 13 = (.bool (decide ((k : Int) < (xs.length : Int)))) := f5.v 0 rfl
    replace r0 : ownR SpanE 29 ((xs.take k).filter okB) (τ5 0) u w5 := f5.iown 0 rfl rfl
    clear f5
    show Code.wp _ _ _ a5 w5
    refine wp_seq ?_
    refine wp_cond_split (t := decide ((k : Int) < (xs.length : Int))) e13 (fun hc1 => ?_) (fun hc1 => ?_)
    · try simp only [Bool.and_eq_true, Bool.or_eq_true, decide_eq_true_eq, decide_eq_false_iff_not, Bool.not_eq_true', Bool.and_eq_false_iff, Bool.or_eq_false_iff, Bool.not_eq_false', Int.not_lt, Int.not_le, beq_iff_eq, spanB] at hc1
      refine wp_skip ?_
      show Code.wp _ _ _ a5 w5
      refine wp_seq ?_
      refine wp_block ?_
      refine wp_seq ?_
      refine region_St (bf := [0, 1, 0, 7]) (sp := [
          (det (Nw w) 14 (.pointer (some ((ptrOf v).add (((k : Int) : Int).toNat * 2))))),
                (det (Nw w) 15 (.agg #[(.int .i64 ((nth xs ((k : Int))).1)), (.int .i64 ((nth xs ((k : Int))).2))])),
                (box 29 (Nw w) 2 5 [(.int .i64 (0)), (.int .i64 (0))]),
                (box 29 (Nw w) 2 5 [(.int .i64 ((nth xs ((k : Int))).1)), (.int .i64 ((nth xs ((k : Int))).2))])])
        [(iown SpanE 29 (Nw w) u ((xs.take k).filter okB))] mixed st5 (by kernel_rfl) ⟨r0, trivial⟩
        ⟨Ob.det rfl rfl rfl (fun _ a_ _ _ c => r_indexAddr rfl Try.underlying22 Try.sizeOf29 (c.eo e10 (by kernel_rfl)) hS.sl (c.eo e12 (by kernel_rfl)) (by omega) (by omega)),
               Ob.det rfl rfl rfl (fun _ a_ _ _ c => r_loadN (vs := [(.int .i64 ((nth xs ((k : Int))).1)), (.int .i64 ((nth xs ((k : Int))).2))]) rfl Try.isAgg29 Try.sizeOf29 (c.ev 0 rfl rfl) rfl (fun _ _ hj => ((hS.at (st5.ext.trans c.J.ext))).elem (nth_some (by omega) (by omega)) hj)),
               Ob.alloc rfl rfl rfl rfl Try.zeroValue29 rfl,
               Ob.storeBox (off := 0) (v := (.agg #[(.int .i64 ((nth xs ((k : Int))).1)), (.int .i64 ((nth xs ((k : Int))).2))])) rfl rfl rfl rfl Try.sizeOf29 (Nat.le_of_ble_eq_true rfl) (by simp [Value.cells, Value.oneCell']) rfl (fun _ _ _ _ c => ⟨c.rbox 2 rfl rfl (by kernel_rfl), (c.rbox 2 rfl rfl (by kernel_rfl)).ptr, (c.ev 1 rfl rfl)⟩),
         trivial⟩ ?_
      intro a6 w6 τ6 st6 f6
      obtain ⟨b6x5, e5⟩ : ∃ b, get a6 5 = b := ⟨_, rfl⟩
      replace e0 := f6.old e0 (by kernel_rfl)
      replace e2 := f6.old e2 (by kernel_rfl)
      replace e3 := f6.old e3 (by kernel_rfl)
      replace e10 := f6.old e10 (by kernel_rfl)
      replace e11 := f6.old e11 (by kernel_rfl)
      replace e12 := f6.old e12 (by kernel_rfl)
      replace e13 := f6.old e13 (by kernel_rfl)
      replace r0 : ownR SpanE 29 ((xs.take k).filter okB) (τ6 0) u w6 := f6.iown 0 rfl rfl
      have r2 : boxR 29 [(.int .i64 ((nth xs ((k : Int))).1)), (.int .i64 ((nth xs ((k : Int))).2))] (τ6 2) b6x5 w6 := f6.rbox 3 rfl rfl e5
      clear f6
      show Code.wp _ _ _ a6 w6
      refine wp_seq ?_
      refine region_St (bf := [0, 1, 0, 4, 15]) (sp := [
          (det (Nw w) 16 (.pointer (some ((ptrOf b6x5).add 0)))),
                (det (Nw w) 17 (.int .i64 ((nth xs ((k : Int))).1))),
                (det (Nw w) 18 (.pointer (some ((ptrOf b6x5).add 1)))),
                (det (Nw w) 19 (.int .i64 ((nth xs ((k : Int))).2))),
                (det (Nw w) 20 (.bool (decide ((nth xs ((k : Int))).1 ≤ (nth xs ((k : Int))).2))))])
        [(iown SpanE 29 (Nw w) u ((xs.take k).filter okB)), (Ini.any (Nw w)), (ibox 29 (Nw w) b6x5 [(.int .i64 ((nth xs ((k : Int))).1)), (.int .i64 ((nth xs ((k : Int))).2))])] mixed st6 (by kernel_rfl) ⟨r0, trivial, r2, trivial⟩
        ⟨Ob.det rfl rfl rfl (fun _ a_ _ _ c => r_fieldAddr rfl Try.underlying29 rfl rfl Try.sizeOf3 ((c.eo e5 (by kernel_rfl)).trans r2.ptr)),
               Ob.det rfl rfl rfl (fun _ a_ _ _ c => r_load1 rfl Try.isAgg3 (c.ev 0 rfl rfl) ((c.ibox 2 rfl rfl (by kernel_rfl)).cell (j := 0) rfl)),
               Ob.det rfl rfl rfl (fun _ a_ _ _ c => r_fieldAddr rfl Try.underlying29 rfl rfl Try.sizeOf3 ((c.eo e5 (by kernel_rfl)).trans r2.ptr)),
               Ob.det rfl rfl rfl (fun _ a_ _ _ c => r_load1 rfl Try.isAgg3 (c.ev 2 rfl rfl) ((c.ibox 2 rfl rfl (by kernel_rfl)).cell (j := 1) rfl)),
               Ob.det rfl rfl rfl (fun _ a_ _ _ c => r_leq rfl (c.ev 1 rfl rfl) (c.ev 3 rfl rfl)),
         trivial⟩ ?_
      intro a7 w7 τ7 st7 f7
      replace e0 := f7.old e0 (by kernel_rfl)
      replace e2 := f7.old e2 (by kernel_rfl)
      replace e3 := f7.old e3 (by kernel_rfl)
      replace e5 := f7.old e5 (by kernel_rfl)
      replace e10 := f7.old e10 (by kernel_rfl)
      replace e11 := f7.old e11 (by kernel_rfl)
      replace e12 := f7.old e12 (by kernel_rfl)
      replace e13 := f7.old e13 (by kernel_rfl)
      have e20 : get a7 20 = (.bool (decide ((nth xs ((k : Int))).1 ≤ (nth xs ((k : Int))).2))) := f7.v 4 rfl
      replace r0 : ownR SpanE 29 ((xs.take k).filter okB) (τ7 0) u w7 := f7.iown 0 rfl rfl
      replace r2 : boxR 29 [(.int .i64 ((nth xs ((k : Int))).1)), (.int .i64 ((nth xs ((k : Int))).2))] (τ7 2) b6x5 w7 := f7.ibox 2 rfl rfl
      clear f7
      show Code.wp _ _ _ a7 w7
      refine wp_cond_split (t := decide ((nth xs ((k : Int))).1 ≤ (nth xs ((k : Int))).2)) e20 (fun hc2 => ?_) (fun hc2 => ?_)
      · try simp only [Bool.and_eq_true, Bool.or_eq_true, decide_eq_true_eq, decide_eq_false_iff_not, Bool.not_eq_true', Bool.and_eq_false_iff, Bool.or_eq_false_iff, Bool.not_eq_false', Int.not_lt, Int.not_le, beq_iff_eq, spanB] at hc2
        refine region_St (bf := [0, 0, 2, 7, 15]) (sp := [
            (det (Nw w) 21 u),
                    (det (Nw w) 22 (.agg #[(.int .i64 ((nth xs ((k : Int))).1)), (.int .i64 ((nth xs ((k : Int))).2))])),
                    (own SpanE 29 (Nw w) 3 23 ([(nth xs ((k : Int)))])),
                    (own SpanE 29 (Nw w) 0 24 (((xs.take k).filter okB) ++ ([(nth xs ((k : Int)))]))),
                    (own SpanE 29 (Nw w) 0 3 (((xs.take k).filter okB) ++ ([(nth xs ((k : Int)))])))])
          [(iown SpanE 29 (Nw w) u ((xs.take k).filter okB)), (Ini.any (Nw w)), (ibox 29 (Nw w) b6x5 [(.int .i64 ((nth xs ((k : Int))).1)), (.int .i64 ((nth xs ((k : Int))).2))])] mixed st7 (by kernel_rfl) ⟨r0, trivial, r2, trivial⟩
          ⟨Ob.det rfl rfl rfl (fun _ a_ _ _ c => r_move rfl (c.eo e3 (by kernel_rfl))),
                   Ob.det rfl rfl rfl (fun _ a_ _ _ c => r_loadN (vs := [(.int .i64 ((nth xs ((k : Int))).1)), (.int .i64 ((nth xs ((k : Int))).2))]) rfl Try.isAgg29 Try.sizeOf29 ((c.eo e5 (by kernel_rfl)).trans r2.ptr) rfl (fun _ _ hj => (c.ibox 2 rfl rfl (by kernel_rfl)).cell hj)),
                   Ob.buildSlice (cells := #[(.int .i64 ((nth xs ((k : Int))).1)), (.int .i64 ((nth xs ((k : Int))).2))]) rfl rfl rfl rfl Try.underlying22 Try.sizeOf29 Try.zeroValue29 rfl (by decide) (by decide) (fun _ a_ _ _ c => by simp only [List.map_toArray, List.map_cons, List.map_nil, (show a_.eval (.tmp 22) = (.agg #[(.int .i64 ((nth xs ((k : Int))).1)), (.int .i64 ((nth xs ((k : Int))).2))]) from (c.ev 1 rfl rfl))]; kernel_rfl) rfl,
                   Ob.append (t0 := 3) rfl rfl rfl rfl Try.underlying22 (i := Try.t29) rfl rfl rfl rfl (by simp only [maxLen]; (try simp); omega) (by show _ * 16 ≤ _; (try simp); omega) (fun _ _ _ _ c => ⟨by rw [(show get _ 3 = u from c.old e3 (by kernel_rfl))]; exact c.iown 0 rfl rfl (by kernel_rfl), (c.ev 0 rfl rfl).trans (show u = get _ 3 from (c.old e3 (by kernel_rfl)).symm), ⟨_, rfl, (c.rown 2 rfl rfl (by kernel_rfl)).1.sl⟩⟩),
                   Ob.moveT (t0 := 24) rfl rfl rfl rfl rfl (.inr rfl) (fun _ _ _ _ c => ⟨c.rown 3 rfl rfl (by kernel_rfl), rfl⟩),
           trivial⟩ ?_
        intro a8 w8 τ8 st8 f8
        obtain ⟨b8x23, e23⟩ : ∃ b, get a8 23 = b := ⟨_, rfl⟩
        obtain ⟨b8x3, e3⟩ : ∃ b, get a8 3 = b := ⟨_, rfl⟩
        replace e0 := f8.old e0 (by kernel_rfl)
        replace e2 := f8.old e2 (by kernel_rfl)
        replace e5 := f8.old e5 (by kernel_rfl)
        replace e10 := f8.old e10 (by kernel_rfl)
        replace e11 := f8.old e11 (by kernel_rfl)
        replace e12 := f8.old e12 (by kernel_rfl)
        replace e13 := f8.old e13 (by kernel_rfl)
        replace e20 := f8.old e20 (by kernel_rfl)
        have r0 : ownR SpanE 29 (((xs.take k).filter okB) ++ ([(nth xs ((k : Int)))])) (τ8 0) b8x3 w8 := f8.rown 4 rfl rfl e3
        replace r2 : boxR 29 [(.int .i64 ((nth xs ((k : Int))).1)), (.int .i64 ((nth xs ((k : Int))).2))] (τ8 2) b6x5 w8 := f8.ibox 2 rfl rfl
        have r3 : ownR SpanE 29 ([(nth xs ((k : Int)))]) (τ8 3) b8x23 w8 := f8.rown 2 rfl rfl e23
        clear f8
        show _
        show Code.wp _ _ _ a8 w8
        refine region_St (bf := [0, 1]) (sp := [
            (det (Nw w) 25 (.int .i64 ((k : Int) + 1))),
                    (det (Nw w) 12 (.int .i64 ((k : Int) + 1)))])
          [(iown SpanE 29 (Nw w) b8x3 (((xs.take k).filter okB) ++ ([(nth xs ((k : Int)))]))), (Ini.any (Nw w)), (ibox 29 (Nw w) b6x5 [(.int .i64 ((nth xs ((k : Int))).1)), (.int .i64 ((nth xs ((k : Int))).2))]), (iown SpanE 29 (Nw w) b8x23 ([(nth xs ((k : Int)))]))] mixed st8 (by kernel_rfl) ⟨r0, trivial, r2, r3, trivial⟩
          ⟨Ob.det rfl rfl rfl (fun _ a_ _ _ c => r_add rfl (c.eo e12 (by kernel_rfl)) rfl (by omega)),
                   Ob.det rfl rfl rfl (fun _ a_ _ _ c => r_move rfl (c.ev 0 rfl rfl)),
           trivial⟩ ?_
        intro a9 w9 τ9 st9 f9
        replace e0 := f9.old e0 (by kernel_rfl)
        replace e2 := f9.old e2 (by kernel_rfl)
        replace e3 := f9.old e3 (by kernel_rfl)
        replace e5 := f9.old e5 (by kernel_rfl)
        replace e10 := f9.old e10 (by kernel_rfl)
        replace e11 := f9.old e11 (by kernel_rfl)
        have e12 : get a9 12 = (.int .i64 ((k : Int) + 1)) := f9.v 1 rfl
        replace e13 := f9.old e13 (by kernel_rfl)
        replace e20 := f9.old e20 (by kernel_rfl)
        replace r0 : ownR SpanE 29 (((xs.take k).filter okB) ++ ([(nth xs ((k : Int)))])) (τ9 0) b8x3 w9 := f9.iown 0 rfl rfl
        replace r2 : boxR 29 [(.int .i64 ((nth xs ((k : Int))).1)), (.int .i64 ((nth xs ((k : Int))).2))] (τ9 2) b6x5 w9 := f9.ibox 2 rfl rfl
        replace r3 : ownR SpanE 29 ([(nth xs ((k : Int)))]) (τ9 3) b8x23 w9 := f9.iown 3 rfl rfl
        clear f9
        refine ⟨⟨k + 1, b8x3, τ9, ?_, st9, e3, (e12.trans (int_eq (by omega))), e0, e2, e10, e11, ?_⟩, ?_⟩
        · omega
        · exact r0.cast (by first | exact filter_t (by omega) (decide_eq_true (by assumption)) | exact filter_f (by omega) (decide_eq_false (by omega)))
        · simp only [m12, e12, intOf]; omega
      · try simp only [Bool.and_eq_true, Bool.or_eq_true, decide_eq_true_eq, decide_eq_false_iff_not, Bool.not_eq_true', Bool.and_eq_false_iff, Bool.or_eq_false_iff, Bool.not_eq_false', Int.not_lt, Int.not_le, beq_iff_eq, spanB] at hc2
        refine wp_skip ?_
        show _
        show Code.wp _ _ _ a7 w7
        refine region_St (bf := [0, 1]) (sp := [
            (det (Nw w) 25 (.int .i64 ((k : Int) + 1))),
                    (det (Nw w) 12 (.int .i64 ((k : Int) + 1)))])
          [(iown SpanE 29 (Nw w) u ((xs.take k).filter okB)), (Ini.any (Nw w)), (ibox 29 (Nw w) b6x5 [(.int .i64 ((nth xs ((k : Int))).1)), (.int .i64 ((nth xs ((k : Int))).2))])] mixed st7 (by kernel_rfl) ⟨r0, trivial, r2, trivial⟩
          ⟨Ob.det rfl rfl rfl (fun _ a_ _ _ c => r_add rfl (c.eo e12 (by kernel_rfl)) rfl (by omega)),
                   Ob.det rfl rfl rfl (fun _ a_ _ _ c => r_move rfl (c.ev 0 rfl rfl)),
           trivial⟩ ?_
        intro a10 w10 τ10 st10 f10
        replace e0 := f10.old e0 (by kernel_rfl)
        replace e2 := f10.old e2 (by kernel_rfl)
        replace e3 := f10.old e3 (by kernel_rfl)
        replace e5 := f10.old e5 (by kernel_rfl)
        replace e10 := f10.old e10 (by kernel_rfl)
        replace e11 := f10.old e11 (by kernel_rfl)
        have e12 : get a10 12 = (.int .i64 ((k : Int) + 1)) := f10.v 1 rfl
        replace e13 := f10.old e13 (by kernel_rfl)
        replace e20 := f10.old e20 (by kernel_rfl)
        replace r0 : ownR SpanE 29 ((xs.take k).filter okB) (τ10 0) u w10 := f10.iown 0 rfl rfl
        replace r2 : boxR 29 [(.int .i64 ((nth xs ((k : Int))).1)), (.int .i64 ((nth xs ((k : Int))).2))] (τ10 2) b6x5 w10 := f10.ibox 2 rfl rfl
        clear f10
        refine ⟨⟨k + 1, u, τ10, ?_, st10, e3, (e12.trans (int_eq (by omega))), e0, e2, e10, e11, ?_⟩, ?_⟩
        · omega
        · exact r0.cast (by first | exact filter_t (by omega) (decide_eq_true (by assumption)) | exact filter_f (by omega) (decide_eq_false (by omega)))
        · simp only [m12, e12, intOf]; omega
    · try simp only [Bool.and_eq_true, Bool.or_eq_true, decide_eq_true_eq, decide_eq_false_iff_not, Bool.not_eq_true', Bool.and_eq_false_iff, Bool.or_eq_false_iff, Bool.not_eq_false', Int.not_lt, Int.not_le, beq_iff_eq, spanB] at hc1
      refine wp_exit ?_
      repeat (with_reducible refine then_exit ?_)
      refine exit_here ?_
      show Code.wp _ _ _ a5 w5
      refine wp_seq ?_
      refine region_St (bf := [0, 1]) (sp := [
          (det (Nw w) 26 u),
                (own SpanE 29 (Nw w) 0 3 (isort ltS ((xs.take k).filter okB)))])
        [(iown SpanE 29 (Nw w) u ((xs.take k).filter okB))] mixed st5 (by kernel_rfl) ⟨r0, trivial⟩
        ⟨Ob.det rfl rfl rfl (fun _ a_ _ _ c => r_move rfl (c.eo e3 (by kernel_rfl))),
               Ob.callIn rfl rfl rfl (by decide) (fun _ a_ _ _ c => ⟨_, _, (e_call2 rfl rfl Try.call28 (c.ev 0 rfl rfl) rfl), c.old e3 (by kernel_rfl), c.iown 0 rfl rfl (by kernel_rfl), fun ho_ => spanSort_c u ((xs.take k).filter okB) _ ho_ (by omega)⟩),
         trivial⟩ ?_
      intro a11 w11 τ11 st11 f11
      replace e0 := f11.old e0 (by kernel_rfl)
      replace e2 := f11.old e2 (by kernel_rfl)
      replace e3 := f11.old e3 (by kernel_rfl)
      replace e10 := f11.old e10 (by kernel_rfl)
      replace e11 := f11.old e11 (by kernel_rfl)
      replace e12 := f11.old e12 (by kernel_rfl)
      replace e13 := f11.old e13 (by kernel_rfl)
      have r0 : ownR SpanE 29 (isort ltS ((xs.take k).filter okB)) (τ11 0) u w11 := f11.rown 1 rfl rfl e3
      clear f11
      replace r0 := r0.cast (show isort ltS (xs.filter okB) = isort ltS ((xs.take k).filter okB) from by rw [List.take_of_length_le (by omega)])
      have hil := sort_filter_le xs
      show Code.wp _ _ _ a11 w11
      refine wp_seq ?_
      refine region_St (bf := [0]) (sp := [
          (det (Nw w) 6 (.slice none 0 0))])
        [(iown SpanE 29 (Nw w) u (isort ltS (xs.filter okB)))] mixed st11 (by kernel_rfl) ⟨r0, trivial⟩
        ⟨Ob.det rfl rfl rfl (fun _ a_ _ _ c => r_assign rfl rfl),
         trivial⟩ ?_
      intro a12 w12 τ12 st12 f12
      replace e0 := f12.old e0 (by kernel_rfl)
      replace e2 := f12.old e2 (by kernel_rfl)
      replace e3 := f12.old e3 (by kernel_rfl)
      have e6 : get a12 6 = (.slice none 0 0) := f12.v 0 rfl
      replace e10 := f12.old e10 (by kernel_rfl)
      replace e11 := f12.old e11 (by kernel_rfl)
      replace e12 := f12.old e12 (by kernel_rfl)
      replace e13 := f12.old e13 (by kernel_rfl)
      replace r0 : ownR SpanE 29 (isort ltS (xs.filter okB)) (τ12 0) u w12 := f12.iown 0 rfl rfl
      clear f12
      show Code.wp _ _ _ a12 w12
      refine wp_seq ?_
      refine wp_seq ?_
      refine region_St (bf := [0, 1, 0]) (sp := [
          (det (Nw w) 28 u),
                (det (Nw w) 29 (.int .i64 (((isort ltS (xs.filter okB)).length : Int)))),
                (det (Nw w) 30 (.int .i64 (0)))])
        [(iown SpanE 29 (Nw w) u (isort ltS (xs.filter okB)))] mixed st12 (by kernel_rfl) ⟨r0, trivial⟩
        ⟨Ob.det rfl rfl rfl (fun _ a_ _ _ c => r_move rfl (c.eo e3 (by kernel_rfl))),
               Ob.det rfl rfl rfl (fun _ a_ _ _ c => r_len rfl Try.underlying22 (c.ev 0 rfl rfl) r0.isSl),
               Ob.det rfl rfl rfl (fun _ a_ _ _ c => r_move rfl rfl),
         trivial⟩ ?_
      intro a13 w13 τ13 st13 f13
      replace e0 := f13.old e0 (by kernel_rfl)
      replace e2 := f13.old e2 (by kernel_rfl)
      replace e3 := f13.old e3 (by kernel_rfl)
      replace e6 := f13.old e6 (by kernel_rfl)
      replace e10 := f13.old e10 (by kernel_rfl)
      replace e11 := f13.old e11 (by kernel_rfl)
      replace e12 := f13.old e12 (by kernel_rfl)
      replace e13 := f13.old e13 (by kernel_rfl)
      have e28 : get a13 28 = u := f13.v 0 rfl
      have e29 : get a13 29 = (.int .i64 (((isort ltS (xs.filter okB)).length : Int))) := f13.v 1 rfl
      have e30 : get a13 30 = (.int .i64 (0)) := f13.v 2 rfl
      replace r0 : ownR SpanE 29 (isort ltS (xs.filter okB)) (τ13 0) u w13 := f13.iown 0 rfl rfl
      clear f13
      show Code.wp _ _ _ a13 w13
      refine wp_block ?_
      refine wp_loop (fun a_ w_ => ∃ (i : Nat) (o : Value) (τ : Nat → Foot), (i ≤ (isort ltS (xs.filter okB)).length) ∧
                St (Nw w) w 65 a_ w_ τ ∧
                get a_ 6 = o ∧
                get a_ 30 = (.int .i64 ((i : Int))) ∧
                get a_ 0 = v ∧
                get a_ 2 = (.slice none 0 0) ∧
                get a_ 3 = u ∧
                get a_ 10 = v ∧
                get a_ 11 = (.int .i64 ((xs.length : Int))) ∧
                get a_ 12 = (.int .i64 ((k : Int))) ∧
                get a_ 13 = (.bool (decide ((k : Int) < (xs.length : Int)))) ∧
                get a_ 28 = u ∧
                get a_ 29 = (.int .i64 (((isort ltS (xs.filter okB)).length : Int))) ∧
                ownR SpanE 29 (joinF ((isort ltS (xs.filter okB)).take i)) (τ 1) o w_ ∧
                ownR SpanE 29 (isort ltS (xs.filter okB)) (τ 0) u w_) (fun a_ _ => (isort ltS (xs.filter okB)).length - (intOf (get a_ 30)).toNat) ?_ ?_
      · refine ⟨0, (.slice none 0 0), τ13, ?_, st13, e6, (e30.trans (int_eq (by omega))), e0, e2, e3, e10, e11, e12, e13, e28, e29, ?_, r0⟩
        · omega
        · exact ownR.nil _ _ _ _
      · intro a14 w14 hI
        obtain ⟨i, o, τ14, q0, st14, e6, e30, e0, e2, e3, e10, e11, e12, e13, e28, e29, r1, r0⟩ := hI
        have hjl := joinF_take (xs := isort ltS (xs.filter okB)) (k := i)
        have m30 := e30
        refine wp_seq ?_
        refine region_St (bf := [0]) (sp := [
            (det (Nw w) 31 (.bool (decide ((i : Int) < ((isort ltS (xs.filter okB)).length : Int)))))])
          [(iown SpanE 29 (Nw w) u (isort ltS (xs.filter okB))), (iown SpanE 29 (Nw w) o (joinF ((isort ltS (xs.filter okB)).take i)))] mixed st14 (by kernel_rfl) ⟨r0, r1, trivial⟩
          ⟨Ob.det rfl rfl rfl (fun _ a_ _ _ c => r_lss rfl (c.eo e30 (by kernel_rfl)) (c.eo e29 (by kernel_rfl))),
           trivial⟩ ?_
        intro a15 w15 τ15 st15 f15
        replace e0 := f15.old e0 (by kernel_rfl)
        replace e2 := f15.old e2 (by kernel_rfl)
        replace e3 := f15.old e3 (by kernel_rfl)
        replace e6 := f15.old e6 (by kernel_rfl)
        replace e10 := f15.old e10 (by kernel_rfl)
        replace e11 := f15.old e11 (by kernel_rfl)
        replace e12 := f15.old e12 (by kernel_rfl)
        replace e13 := f15.old e13 (by kernel_rfl)
        replace e28 := f15.old e28 (by kernel_rfl)
        replace e29 := f15.old e29 (by kernel_rfl)
        replace e30 := f15.old e30 (by kernel_rfl)
        have e31 : get a15 31 = (.bool (decide ((i : Int) < ((isort ltS (xs.filter okB)).length : Int)))) := f15.v 0 rfl
        replace r0 : ownR SpanE 29 (isort ltS (xs.filter okB)) (τ15 0) u w15 := f15.iown 0 rfl rfl
        replace r1 : ownR SpanE 29 (joinF ((isort ltS (xs.filter okB)).take i)) (τ15 1) o w15 := f15.iown 1 rfl rfl
        clear f15
        show Code.wp _ _ _ a15 w15
        refine wp_seq ?_
        refine wp_cond_split (t := decide ((i : Int) < ((isort ltS (xs.filter okB)).length : Int))) e31 (fun hc3 => ?_) (fun hc3 => ?_)
        · try simp only [Bool.and_eq_true, Bool.or_eq_true, decide_eq_true_eq, decide_eq_false_iff_not, Bool.not_eq_true', Bool.and_eq_false_iff, Bool.or_eq_false_iff, Bool.not_eq_false', Int.not_lt, Int.not_le, beq_iff_eq, spanB] at hc3
          refine wp_skip ?_
          show Code.wp _ _ _ a15 w15
          refine wp_seq ?_
          refine wp_block ?_
          refine wp_seq ?_
          refine region_St (bf := [0, 1, 0, 7]) (sp := [
              (det (Nw w) 32 (.pointer (some ((ptrOf u).add (((i : Int) : Int).toNat * 2))))),
                        (det (Nw w) 33 (.agg #[(.int .i64 ((nth (isort ltS (xs.filter okB)) ((i : Int))).1)), (.int .i64 ((nth (isort ltS (xs.filter okB)) ((i : Int))).2))])),
                        (box 29 (Nw w) 2 8 [(.int .i64 (0)), (.int .i64 (0))]),
                        (box 29 (Nw w) 2 8 [(.int .i64 ((nth (isort ltS (xs.filter okB)) ((i : Int))).1)), (.int .i64 ((nth (isort ltS (xs.filter okB)) ((i : Int))).2))])])
            [(iown SpanE 29 (Nw w) u (isort ltS (xs.filter okB))), (iown SpanE 29 (Nw w) o (joinF ((isort ltS (xs.filter okB)).take i)))] mixed st15 (by kernel_rfl) ⟨r0, r1, trivial⟩
            ⟨Ob.det rfl rfl rfl (fun _ a_ _ _ c => r_indexAddr rfl Try.underlying22 Try.sizeOf29 (c.eo e28 (by kernel_rfl)) r0.isSl (c.eo e30 (by kernel_rfl)) (by omega) (by omega)),
                       Ob.det rfl rfl rfl (fun _ a_ _ _ c => r_loadN (vs := [(.int .i64 ((nth (isort ltS (xs.filter okB)) ((i : Int))).1)), (.int .i64 ((nth (isort ltS (xs.filter okB)) ((i : Int))).2))]) rfl Try.isAgg29 Try.sizeOf29 (c.ev 0 rfl rfl) rfl (fun _ _ hj => ((c.iown 0 rfl rfl (by kernel_rfl)).1.sl).elem (nth_some (by omega) (by omega)) hj)),
                       Ob.alloc rfl rfl rfl rfl Try.zeroValue29 rfl,
                       Ob.storeBox (off := 0) (v := (.agg #[(.int .i64 ((nth (isort ltS (xs.filter okB)) ((i : Int))).1)), (.int .i64 ((nth (isort ltS (xs.filter okB)) ((i : Int))).2))])) rfl rfl rfl rfl Try.sizeOf29 (Nat.le_of_ble_eq_true rfl) (by simp [Value.cells, Value.oneCell']) rfl (fun _ _ _ _ c => ⟨c.rbox 2 rfl rfl (by kernel_rfl), (c.rbox 2 rfl rfl (by kernel_rfl)).ptr, (c.ev 1 rfl rfl)⟩),
             trivial⟩ ?_
          intro a16 w16 τ16 st16 f16
          obtain ⟨b16x8, e8⟩ : ∃ b, get a16 8 = b := ⟨_, rfl⟩
          replace e0 := f16.old e0 (by kernel_rfl)
          replace e2 := f16.old e2 (by kernel_rfl)
          replace e3 := f16.old e3 (by kernel_rfl)
          replace e6 := f16.old e6 (by kernel_rfl)
          replace e10 := f16.old e10 (by kernel_rfl)
          replace e11 := f16.old e11 (by kernel_rfl)
          replace e12 := f16.old e12 (by kernel_rfl)
          replace e13 := f16.old e13 (by kernel_rfl)
          replace e28 := f16.old e28 (by kernel_rfl)
          replace e29 := f16.old e29 (by kernel_rfl)
          replace e30 := f16.old e30 (by kernel_rfl)
          replace e31 := f16.old e31 (by kernel_rfl)
          replace r0 : ownR SpanE 29 (isort ltS (xs.filter okB)) (τ16 0) u w16 := f16.iown 0 rfl rfl
          replace r1 : ownR SpanE 29 (joinF ((isort ltS (xs.filter okB)).take i)) (τ16 1) o w16 := f16.iown 1 rfl rfl
          have r2 : boxR 29 [(.int .i64 ((nth (isort ltS (xs.filter okB)) ((i : Int))).1)), (.int .i64 ((nth (isort ltS (xs.filter okB)) ((i : Int))).2))] (τ16 2) b16x8 w16 := f16.rbox 3 rfl rfl e8
          clear f16
          show Code.wp _ _ _ a16 w16
          refine wp_seq ?_
          refine wp_seq ?_
          refine region_St (bf := [0, 1, 3, 7]) (sp := [
              (det (Nw w) 34 o),
                        (det (Nw w) 35 (.int .i64 (((joinF ((isort ltS (xs.filter okB)).take i)).length : Int)))),
                        (det (Nw w) 36 (.int .i64 (((joinF ((isort ltS (xs.filter okB)).take i)).length : Int) - 1))),
                        (det (Nw w) 9 (.int .i64 (((joinF ((isort ltS (xs.filter okB)).take i)).length : Int) - 1)))])
            [(iown SpanE 29 (Nw w) u (isort ltS (xs.filter okB))), (iown SpanE 29 (Nw w) o (joinF ((isort ltS (xs.filter okB)).take i))), (ibox 29 (Nw w) b16x8 [(.int .i64 ((nth (isort ltS (xs.filter okB)) ((i : Int))).1)), (.int .i64 ((nth (isort ltS (xs.filter okB)) ((i : Int))).2))])] mixed st16 (by kernel_rfl) ⟨r0, r1, r2, trivial⟩
            ⟨Ob.det rfl rfl rfl (fun _ a_ _ _ c => r_move rfl (c.eo e6 (by kernel_rfl))),
                       Ob.det rfl rfl rfl (fun _ a_ _ _ c => r_len rfl Try.underlying22 (c.ev 0 rfl rfl) r1.isSl),
                       Ob.det rfl rfl rfl (fun _ a_ _ _ c => r_sub rfl (c.ev 1 rfl rfl) rfl (by omega)),
                       Ob.det rfl rfl rfl (fun _ a_ _ _ c => r_assign rfl (c.ev 2 rfl rfl)),
             trivial⟩ ?_
          intro a17 w17 τ17 st17 f17
          replace e0 := f17.old e0 (by kernel_rfl)
          replace e2 := f17.old e2 (by kernel_rfl)
          replace e3 := f17.old e3 (by kernel_rfl)
          replace e6 := f17.old e6 (by kernel_rfl)
          replace e8 := f17.old e8 (by kernel_rfl)
          have e9 : get a17 9 = (.int .i64 (((joinF ((isort ltS (xs.filter okB)).take i)).length : Int) - 1)) := f17.v 3 rfl
          replace e10 := f17.old e10 (by kernel_rfl)
          replace e11 := f17.old e11 (by kernel_rfl)
          replace e12 := f17.old e12 (by kernel_rfl)
          replace e13 := f17.old e13 (by kernel_rfl)
          replace e28 := f17.old e28 (by kernel_rfl)
          replace e29 := f17.old e29 (by kernel_rfl)
          replace e30 := f17.old e30 (by kernel_rfl)
          replace e31 := f17.old e31 (by kernel_rfl)
          replace r0 : ownR SpanE 29 (isort ltS (xs.filter okB)) (τ17 0) u w17 := f17.iown 0 rfl rfl
          replace r1 : ownR SpanE 29 (joinF ((isort ltS (xs.filter okB)).take i)) (τ17 1) o w17 := f17.iown 1 rfl rfl
          replace r2 : boxR 29 [(.int .i64 ((nth (isort ltS (xs.filter okB)) ((i : Int))).1)), (.int .i64 ((nth (isort ltS (xs.filter okB)) ((i : Int))).2))] (τ17 2) b16x8 w17 := f17.ibox 2 rfl rfl
          clear f17
          show Code.wp _ _ _ a17 w17
          refine wp_seq ?_
          refine region_St (bf := [0, 1, 3, 7, 7, 31, 63, 7, 255, 511]) (sp := [
              (det (Nw w) 37 (.int .i64 (((joinF ((isort ltS (xs.filter okB)).take i)).length : Int) - 1))),
                        (det (Nw w) 38 (.bool (decide (0 ≤ ((joinF ((isort ltS (xs.filter okB)).take i)).length : Int) - 1)))),
                        (det (Nw w) 39 (.bool (decide (0 ≤ ((joinF ((isort ltS (xs.filter okB)).take i)).length : Int) - 1)))),
                        (gdet (Nw w) 40 ((decide (0 ≤ ((joinF ((isort ltS (xs.filter okB)).take i)).length : Int) - 1)) = true) o),
                        (gdet (Nw w) 41 ((decide (0 ≤ ((joinF ((isort ltS (xs.filter okB)).take i)).length : Int) - 1)) = true) (.int .i64 (((joinF ((isort ltS (xs.filter okB)).take i)).length : Int) - 1))),
                        (gdet (Nw w) 42 ((decide (0 ≤ ((joinF ((isort ltS (xs.filter okB)).take i)).length : Int) - 1)) = true) (.pointer (some ((ptrOf o).add ((((joinF ((isort ltS (xs.filter okB)).take i)).length : Int) - 1 : Int).toNat * 2))))),
                        (gdet (Nw w) 43 ((decide (0 ≤ ((joinF ((isort ltS (xs.filter okB)).take i)).length : Int) - 1)) = true) (.agg #[(.int .i64 ((nth (joinF ((isort ltS (xs.filter okB)).take i)) (((joinF ((isort ltS (xs.filter okB)).take i)).length : Int) - 1)).1)), (.int .i64 ((nth (joinF ((isort ltS (xs.filter okB)).take i)) (((joinF ((isort ltS (xs.filter okB)).take i)).length : Int) - 1)).2))])),
                        (gdet (Nw w) 44 ((decide (0 ≤ ((joinF ((isort ltS (xs.filter okB)).take i)).length : Int) - 1)) = true) (.agg #[(.int .i64 ((nth (isort ltS (xs.filter okB)) ((i : Int))).1)), (.int .i64 ((nth (isort ltS (xs.filter okB)) ((i : Int))).2))])),
                        (gdet (Nw w) 45 ((decide (0 ≤ ((joinF ((isort ltS (xs.filter okB)).take i)).length : Int) - 1)) = true) (.bool (touchB (nth (joinF ((isort ltS (xs.filter okB)).take i)) (((joinF ((isort ltS (xs.filter okB)).take i)).length : Int) - 1)) (nth (isort ltS (xs.filter okB)) ((i : Int)))))),
                        (det (Nw w) 46 (.bool ((decide (0 ≤ ((joinF ((isort ltS (xs.filter okB)).take i)).length : Int) - 1)) && (touchB (nth (joinF ((isort ltS (xs.filter okB)).take i)) (((joinF ((isort ltS (xs.filter okB)).take i)).length : Int) - 1)) (nth (isort ltS (xs.filter okB)) ((i : Int)))))))])
            [(iown SpanE 29 (Nw w) u (isort ltS (xs.filter okB))), (iown SpanE 29 (Nw w) o (joinF ((isort ltS (xs.filter okB)).take i))), (ibox 29 (Nw w) b16x8 [(.int .i64 ((nth (isort ltS (xs.filter okB)) ((i : Int))).1)), (.int .i64 ((nth (isort ltS (xs.filter okB)) ((i : Int))).2))])] mixed st17 (by kernel_rfl) ⟨r0, r1, r2, trivial⟩
            ⟨Ob.det rfl rfl rfl (fun _ a_ _ _ c => r_move rfl (c.eo e9 (by kernel_rfl))),
                       Ob.det rfl rfl rfl (fun _ a_ _ _ c => r_geq rfl (c.ev 0 rfl rfl) rfl),
                       Ob.det rfl rfl rfl (fun _ a_ _ _ c => r_move rfl (c.ev 1 rfl rfl)),
                       Ob.gdet rfl rfl rfl rfl (gi := 2) (tg := 39) rfl rfl Iff.rfl (fun _ a_ _ _ c hpc => r_move rfl (c.eo e6 (by kernel_rfl))),
                       Ob.gdet rfl rfl rfl rfl (gi := 2) (tg := 39) rfl rfl Iff.rfl (fun _ a_ _ _ c hpc => r_move rfl (c.eo e9 (by kernel_rfl))),
                       Ob.gdet rfl rfl rfl rfl (gi := 2) (tg := 39) rfl rfl Iff.rfl (fun _ a_ _ _ c hpc => r_indexAddr rfl Try.underlying22 Try.sizeOf29 (c.eg 3 rfl rfl hpc) r1.isSl (c.eg 4 rfl rfl hpc) (by have hq0 := hpc; (try simp only [Bool.and_eq_true, Bool.or_eq_true, decide_eq_true_eq, decide_eq_false_iff_not, Bool.not_eq_true', Bool.and_eq_false_iff, Bool.or_eq_false_iff, Bool.not_eq_false', Int.not_lt, Int.not_le, beq_iff_eq, spanB] at hq0); omega) (by have hq0 := hpc; (try simp only [Bool.and_eq_true, Bool.or_eq_true, decide_eq_true_eq, decide_eq_false_iff_not, Bool.not_eq_true', Bool.and_eq_false_iff, Bool.or_eq_false_iff, Bool.not_eq_false', Int.not_lt, Int.not_le, beq_iff_eq, spanB] at hq0); omega)),
                       Ob.gdet rfl rfl rfl rfl (gi := 2) (tg := 39) rfl rfl Iff.rfl (fun _ a_ _ _ c hpc => r_loadN (vs := [(.int .i64 ((nth (joinF ((isort ltS (xs.filter okB)).take i)) (((joinF ((isort ltS (xs.filter okB)).take i)).length : Int) - 1)).1)), (.int .i64 ((nth (joinF ((isort ltS (xs.filter okB)).take i)) (((joinF ((isort ltS (xs.filter okB)).take i)).length : Int) - 1)).2))]) rfl Try.isAgg29 Try.sizeOf29 (c.eg 5 rfl rfl hpc) rfl (fun _ _ hj => ((c.iown 1 rfl rfl (by kernel_rfl)).1.sl).elem (nth_some (by have hq0 := hpc; (try simp only [Bool.and_eq_true, Bool.or_eq_true, decide_eq_true_eq, decide_eq_false_iff_not, Bool.not_eq_true', Bool.and_eq_false_iff, Bool.or_eq_false_iff, Bool.not_eq_false', Int.not_lt, Int.not_le, beq_iff_eq, spanB] at hq0); omega) (by have hq0 := hpc; (try simp only [Bool.and_eq_true, Bool.or_eq_true, decide_eq_true_eq, decide_eq_false_iff_not, Bool.not_eq_true', Bool.and_eq_false_iff, Bool.or_eq_false_iff, Bool.not_eq_false', Int.not_lt, Int.not_le, beq_iff_eq, spanB] at hq0); omega)) hj)),
                       Ob.gdet rfl rfl rfl rfl (gi := 2) (tg := 39) rfl rfl Iff.rfl (fun _ a_ _ _ c hpc => r_loadN (vs := [(.int .i64 ((nth (isort ltS (xs.filter okB)) ((i : Int))).1)), (.int .i64 ((nth (isort ltS (xs.filter okB)) ((i : Int))).2))]) rfl Try.isAgg29 Try.sizeOf29 ((c.eo e8 (by kernel_rfl)).trans r2.ptr) rfl (fun _ _ hj => (c.ibox 2 rfl rfl (by kernel_rfl)).cell hj)),
                       Ob.gcall rfl rfl rfl rfl (gi := 2) (tg := 39) rfl rfl Iff.rfl (fun _ a_ _ _ c hpc => ⟨_, _, (e_call2 rfl rfl Try.call26 (c.eg 6 rfl rfl hpc) (c.eg 7 rfl rfl hpc)), touch_c (nth (joinF ((isort ltS (xs.filter okB)).take i)) (((joinF ((isort ltS (xs.filter okB)).take i)).length : Int) - 1)) (nth (isort ltS (xs.filter okB)) ((i : Int))) _⟩),
                       Ob.det rfl rfl rfl (fun _ a_ _ _ c => r_and rfl (c.ev 2 rfl rfl) (fun h => (c.eg 8 rfl rfl h))),
             trivial⟩ ?_
          intro a18 w18 τ18 st18 f18
          replace e0 := f18.old e0 (by kernel_rfl)
          replace e2 := f18.old e2 (by kernel_rfl)
          replace e3 := f18.old e3 (by kernel_rfl)
          replace e6 := f18.old e6 (by kernel_rfl)
          replace e8 := f18.old e8 (by kernel_rfl)
          replace e9 := f18.old e9 (by kernel_rfl)
          replace e10 := f18.old e10 (by kernel_rfl)
          replace e11 := f18.old e11 (by kernel_rfl)
          replace e12 := f18.old e12 (by kernel_rfl)
          replace e13 := f18.old e13 (by kernel_rfl)
          replace e28 := f18.old e28 (by kernel_rfl)
          replace e29 := f18.old e29 (by kernel_rfl)
          replace e30 := f18.old e30 (by kernel_rfl)
          replace e31 := f18.old e31 (by kernel_rfl)
          have e46 : get a18 46 = (.bool ((decide (0 ≤ ((joinF ((isort ltS (xs.filter okB)).take i)).length : Int) - 1)) && (touchB (nth (joinF ((isort ltS (xs.filter okB)).take i)) (((joinF ((isort ltS (xs.filter okB)).take i)).length : Int) - 1)) (nth (isort ltS (xs.filter okB)) ((i : Int)))))) := f18.v 9 rfl
          replace r0 : ownR SpanE 29 (isort ltS (xs.filter okB)) (τ18 0) u w18 := f18.iown 0 rfl rfl
          replace r1 : ownR SpanE 29 (joinF ((isort ltS (xs.filter okB)).take i)) (τ18 1) o w18 := f18.iown 1 rfl rfl
          replace r2 : boxR 29 [(.int .i64 ((nth (isort ltS (xs.filter okB)) ((i : Int))).1)), (.int .i64 ((nth (isort ltS (xs.filter okB)) ((i : Int))).2))] (τ18 2) b16x8 w18 := f18.ibox 2 rfl rfl
          clear f18
          show Code.wp _ _ _ a18 w18
          refine wp_cond_split (t := (decide (0 ≤ ((joinF ((isort ltS (xs.filter okB)).take i)).length : Int) - 1)) && (touchB (nth (joinF ((isort ltS (xs.filter okB)).take i)) (((joinF ((isort ltS (xs.filter okB)).take i)).length : Int) - 1)) (nth (isort ltS (xs.filter okB)) ((i : Int))))) e46 (fun hc4 => ?_) (fun hc4 => ?_)
          · have hd4 := hc4; try simp only [Bool.and_eq_true, Bool.or_eq_true, decide_eq_true_eq, decide_eq_false_iff_not, Bool.not_eq_true', Bool.and_eq_false_iff, Bool.or_eq_false_iff, Bool.not_eq_false', Int.not_lt, Int.not_le, beq_iff_eq, spanB] at hd4
            refine wp_seq ?_
            refine region_St (bf := [0, 0, 0, 0, 12, 28, 60, 0, 128, 508, 1023, 2047, 4095]) (sp := [
                (det (Nw w) 47 o),
                            (det (Nw w) 48 (.int .i64 (((joinF ((isort ltS (xs.filter okB)).take i)).length : Int) - 1))),
                            (det (Nw w) 49 o),
                            (det (Nw w) 50 (.int .i64 (((joinF ((isort ltS (xs.filter okB)).take i)).length : Int) - 1))),
                            (det (Nw w) 51 (.pointer (some ((ptrOf o).add ((((joinF ((isort ltS (xs.filter okB)).take i)).length : Int) - 1 : Int).toNat * 2))))),
                            (det (Nw w) 52 (.pointer (some (((ptrOf o).add ((((joinF ((isort ltS (xs.filter okB)).take i)).length : Int) - 1 : Int).toNat * 2)).add 1)))),
                            (det (Nw w) 53 (.int .i64 ((nth (joinF ((isort ltS (xs.filter okB)).take i)) (((joinF ((isort ltS (xs.filter okB)).take i)).length : Int) - 1)).2))),
                            (det (Nw w) 54 (.pointer (some ((ptrOf b16x8).add 1)))),
                            (det (Nw w) 55 (.int .i64 ((nth (isort ltS (xs.filter okB)) ((i : Int))).2))),
                            (det (Nw w) 56 (.int .i64 (max ((nth (joinF ((isort ltS (xs.filter okB)).take i)) (((joinF ((isort ltS (xs.filter okB)).take i)).length : Int) - 1)).2) ((nth (isort ltS (xs.filter okB)) ((i : Int))).2)))),
                            (det (Nw w) 57 (.pointer (some ((ptrOf o).add ((((joinF ((isort ltS (xs.filter okB)).take i)).length : Int) - 1 : Int).toNat * 2))))),
                            (det (Nw w) 58 (.pointer (some (((ptrOf o).add ((((joinF ((isort ltS (xs.filter okB)).take i)).length : Int) - 1 : Int).toNat * 2)).add 1)))),
                            (own SpanE 29 (Nw w) 1 6 ((joinF ((isort ltS (xs.filter okB)).take i)).set (((joinF ((isort ltS (xs.filter okB)).take i)).length : Int) - 1).toNat ((nth (joinF ((isort ltS (xs.filter okB)).take i)) (((joinF ((isort ltS (xs.filter okB)).take i)).length : Int) - 1)).1, max ((nth (joinF ((isort ltS (xs.filter okB)).take i)) (((joinF ((isort ltS (xs.filter okB)).take i)).length : Int) - 1)).2) ((nth (isort ltS (xs.filter okB)) ((i : Int))).2))))])
              [(iown SpanE 29 (Nw w) u (isort ltS (xs.filter okB))), (iown SpanE 29 (Nw w) o (joinF ((isort ltS (xs.filter okB)).take i))), (ibox 29 (Nw w) b16x8 [(.int .i64 ((nth (isort ltS (xs.filter okB)) ((i : Int))).1)), (.int .i64 ((nth (isort ltS (xs.filter okB)) ((i : Int))).2))])] mixed st18 (by kernel_rfl) ⟨r0, r1, r2, trivial⟩
              ⟨Ob.det rfl rfl rfl (fun _ a_ _ _ c => r_move rfl (c.eo e6 (by kernel_rfl))),
                           Ob.det rfl rfl rfl (fun _ a_ _ _ c => r_move rfl (c.eo e9 (by kernel_rfl))),
                           Ob.det rfl rfl rfl (fun _ a_ _ _ c => r_move rfl (c.eo e6 (by kernel_rfl))),
                           Ob.det rfl rfl rfl (fun _ a_ _ _ c => r_move rfl (c.eo e9 (by kernel_rfl))),
                           Ob.det rfl rfl rfl (fun _ a_ _ _ c => r_indexAddr rfl Try.underlying22 Try.sizeOf29 (c.ev 2 rfl rfl) r1.isSl (c.ev 3 rfl rfl) (by omega) (by omega)),
                           Ob.det rfl rfl rfl (fun _ a_ _ _ c => r_fieldAddr rfl Try.underlying29 rfl rfl Try.sizeOf3 (c.ev 4 rfl rfl)),
                           Ob.det rfl rfl rfl (fun _ a_ _ _ c => r_load1 rfl Try.isAgg3 (c.ev 5 rfl rfl) (((c.iown 1 rfl rfl (by kernel_rfl)).1.sl).elem (j := 1) (nth_some (by omega) (by omega)) rfl)),
                           Ob.det rfl rfl rfl (fun _ a_ _ _ c => r_fieldAddr rfl Try.underlying29 rfl rfl Try.sizeOf3 ((c.eo e8 (by kernel_rfl)).trans r2.ptr)),
                           Ob.det rfl rfl rfl (fun _ a_ _ _ c => r_load1 rfl Try.isAgg3 (c.ev 7 rfl rfl) ((c.ibox 2 rfl rfl (by kernel_rfl)).cell (j := 1) rfl)),
                           Ob.det rfl rfl rfl (fun _ a_ _ _ c => r_max rfl (c.ev 6 rfl rfl) (c.ev 8 rfl rfl)),
                           Ob.det rfl rfl rfl (fun _ a_ _ _ c => r_indexAddr rfl Try.underlying22 Try.sizeOf29 (c.ev 0 rfl rfl) r1.isSl (c.ev 1 rfl rfl) (by omega) (by omega)),
                           Ob.det rfl rfl rfl (fun _ a_ _ _ c => r_fieldAddr rfl Try.underlying29 rfl rfl Try.sizeOf3 (c.ev 10 rfl rfl)),
                           Ob.storeElem (E := SpanE) (i := (((joinF ((isort ltS (xs.filter okB)).take i)).length : Int) - 1).toNat) (off := 1) (u := (.int .i64 (max ((nth (joinF ((isort ltS (xs.filter okB)).take i)) (((joinF ((isort ltS (xs.filter okB)).take i)).length : Int) - 1)).2) ((nth (isort ltS (xs.filter okB)) ((i : Int))).2)))) (x := nth (joinF ((isort ltS (xs.filter okB)).take i)) (((joinF ((isort ltS (xs.filter okB)).take i)).length : Int) - 1)) (x' := ((nth (joinF ((isort ltS (xs.filter okB)).take i)) (((joinF ((isort ltS (xs.filter okB)).take i)).length : Int) - 1)).1, max ((nth (joinF ((isort ltS (xs.filter okB)).take i)) (((joinF ((isort ltS (xs.filter okB)).take i)).length : Int) - 1)).2) ((nth (isort ltS (xs.filter okB)) ((i : Int))).2))) rfl rfl rfl rfl Try.sizeOf3 (nth_some (by omega) (by (try simp only [List.length_set]); omega)) (Nat.le_of_ble_eq_true rfl) (by simp [Value.cells, Value.oneCell']) rfl (fun _ a_ _ _ c => ⟨by rw [(show get _ 6 = o from c.old e6 (by kernel_rfl))]; exact c.iown 1 rfl rfl (by kernel_rfl), (by rw [(c.ev 11 rfl rfl), add_add, (show get _ 6 = o from c.old e6 (by kernel_rfl))]; rfl), (c.ev 9 rfl rfl)⟩),
               trivial⟩ ?_
            intro a19 w19 τ19 st19 f19
            replace e0 := f19.old e0 (by kernel_rfl)
            replace e2 := f19.old e2 (by kernel_rfl)
            replace e3 := f19.old e3 (by kernel_rfl)
            replace e6 := f19.old e6 (by kernel_rfl)
            replace e8 := f19.old e8 (by kernel_rfl)
            replace e9 := f19.old e9 (by kernel_rfl)
            replace e10 := f19.old e10 (by kernel_rfl)
            replace e11 := f19.old e11 (by kernel_rfl)
            replace e12 := f19.old e12 (by kernel_rfl)
            replace e13 := f19.old e13 (by kernel_rfl)
            replace e28 := f19.old e28 (by kernel_rfl)
            replace e29 := f19.old e29 (by kernel_rfl)
            replace e30 := f19.old e30 (by kernel_rfl)
            replace e31 := f19.old e31 (by kernel_rfl)
            replace e46 := f19.old e46 (by kernel_rfl)
            replace r0 : ownR SpanE 29 (isort ltS (xs.filter okB)) (τ19 0) u w19 := f19.iown 0 rfl rfl
            have r1 : ownR SpanE 29 ((joinF ((isort ltS (xs.filter okB)).take i)).set (((joinF ((isort ltS (xs.filter okB)).take i)).length : Int) - 1).toNat ((nth (joinF ((isort ltS (xs.filter okB)).take i)) (((joinF ((isort ltS (xs.filter okB)).take i)).length : Int) - 1)).1, max ((nth (joinF ((isort ltS (xs.filter okB)).take i)) (((joinF ((isort ltS (xs.filter okB)).take i)).length : Int) - 1)).2) ((nth (isort ltS (xs.filter okB)) ((i : Int))).2))) (τ19 1) o w19 := f19.rown 12 rfl rfl e6
            replace r2 : boxR 29 [(.int .i64 ((nth (isort ltS (xs.filter okB)) ((i : Int))).1)), (.int .i64 ((nth (isort ltS (xs.filter okB)) ((i : Int))).2))] (τ19 2) b16x8 w19 := f19.ibox 2 rfl rfl
            clear f19
            show Code.wp _ _ _ a19 w19
            refine wp_exit ?_
            repeat (with_reducible refine then_exit ?_)
            refine exit_here ?_
            show Code.wp _ _ _ a19 w19
            refine region_St (bf := [0, 1]) (sp := [
                (det (Nw w) 63 (.int .i64 ((i : Int) + 1))),
                            (det (Nw w) 30 (.int .i64 ((i : Int) + 1)))])
              [(iown SpanE 29 (Nw w) u (isort ltS (xs.filter okB))), (iown SpanE 29 (Nw w) o ((joinF ((isort ltS (xs.filter okB)).take i)).set (((joinF ((isort ltS (xs.filter okB)).take i)).length : Int) - 1).toNat ((nth (joinF ((isort ltS (xs.filter okB)).take i)) (((joinF ((isort ltS (xs.filter okB)).take i)).length : Int) - 1)).1, max ((nth (joinF ((isort ltS (xs.filter okB)).take i)) (((joinF ((isort ltS (xs.filter okB)).take i)).length : Int) - 1)).2) ((nth (isort ltS (xs.filter okB)) ((i : Int))).2)))), (ibox 29 (Nw w) b16x8 [(.int .i64 ((nth (isort ltS (xs.filter okB)) ((i : Int))).1)), (.int .i64 ((nth (isort ltS (xs.filter okB)) ((i : Int))).2))])] mixed st19 (by kernel_rfl) ⟨r0, r1, r2, trivial⟩
              ⟨Ob.det rfl rfl rfl (fun _ a_ _ _ c => r_add rfl (c.eo e30 (by kernel_rfl)) rfl (by omega)),
                           Ob.det rfl rfl rfl (fun _ a_ _ _ c => r_move rfl (c.ev 0 rfl rfl)),
               trivial⟩ ?_
            intro a20 w20 τ20 st20 f20
            replace e0 := f20.old e0 (by kernel_rfl)
            replace e2 := f20.old e2 (by kernel_rfl)
            replace e3 := f20.old e3 (by kernel_rfl)
            replace e6 := f20.old e6 (by kernel_rfl)
            replace e8 := f20.old e8 (by kernel_rfl)
            replace e9 := f20.old e9 (by kernel_rfl)
            replace e10 := f20.old e10 (by kernel_rfl)
            replace e11 := f20.old e11 (by kernel_rfl)
            replace e12 := f20.old e12 (by kernel_rfl)
            replace e13 := f20.old e13 (by kernel_rfl)
            replace e28 := f20.old e28 (by kernel_rfl)
            replace e29 := f20.old e29 (by kernel_rfl)
            have e30 : get a20 30 = (.int .i64 ((i : Int) + 1)) := f20.v 1 rfl
            replace e31 := f20.old e31 (by kernel_rfl)
            replace e46 := f20.old e46 (by kernel_rfl)
            replace r0 : ownR SpanE 29 (isort ltS (xs.filter okB)) (τ20 0) u w20 := f20.iown 0 rfl rfl
            replace r1 : ownR SpanE 29 ((joinF ((isort ltS (xs.filter okB)).take i)).set (((joinF ((isort ltS (xs.filter okB)).take i)).length : Int) - 1).toNat ((nth (joinF ((isort ltS (xs.filter okB)).take i)) (((joinF ((isort ltS (xs.filter okB)).take i)).length : Int) - 1)).1, max ((nth (joinF ((isort ltS (xs.filter okB)).take i)) (((joinF ((isort ltS (xs.filter okB)).take i)).length : Int) - 1)).2) ((nth (isort ltS (xs.filter okB)) ((i : Int))).2))) (τ20 1) o w20 := f20.iown 1 rfl rfl
            replace r2 : boxR 29 [(.int .i64 ((nth (isort ltS (xs.filter okB)) ((i : Int))).1)), (.int .i64 ((nth (isort ltS (xs.filter okB)) ((i : Int))).2))] (τ20 2) b16x8 w20 := f20.ibox 2 rfl rfl
            clear f20
            refine ⟨⟨i + 1, o, τ20, ?_, st20, e6, (e30.trans (int_eq (by omega))), e0, e2, e3, e10, e11, e12, e13, e28, e29, ?_, r0⟩, ?_⟩
            · omega
            · exact r1.cast (by first | exact joinF_hit (by omega) (by assumption) | exact joinF_miss (by omega) (by assumption))
            · simp only [m30, e30, intOf]; omega
          · have hd4 := hc4; try simp only [Bool.and_eq_true, Bool.or_eq_true, decide_eq_true_eq, decide_eq_false_iff_not, Bool.not_eq_true', Bool.and_eq_false_iff, Bool.or_eq_false_iff, Bool.not_eq_false', Int.not_lt, Int.not_le, beq_iff_eq, spanB] at hd4
            refine wp_skip ?_
            show Code.wp _ _ _ a18 w18
            refine region_St (bf := [0, 0, 2, 7, 15]) (sp := [
                (det (Nw w) 59 o),
                            (det (Nw w) 60 (.agg #[(.int .i64 ((nth (isort ltS (xs.filter okB)) ((i : Int))).1)), (.int .i64 ((nth (isort ltS (xs.filter okB)) ((i : Int))).2))])),
                            (own SpanE 29 (Nw w) 3 61 ([(nth (isort ltS (xs.filter okB)) ((i : Int)))])),
                            (own SpanE 29 (Nw w) 1 62 ((joinF ((isort ltS (xs.filter okB)).take i)) ++ ([(nth (isort ltS (xs.filter okB)) ((i : Int)))]))),
                            (own SpanE 29 (Nw w) 1 6 ((joinF ((isort ltS (xs.filter okB)).take i)) ++ ([(nth (isort ltS (xs.filter okB)) ((i : Int)))])))])
              [(iown SpanE 29 (Nw w) u (isort ltS (xs.filter okB))), (iown SpanE 29 (Nw w) o (joinF ((isort ltS (xs.filter okB)).take i))), (ibox 29 (Nw w) b16x8 [(.int .i64 ((nth (isort ltS (xs.filter okB)) ((i : Int))).1)), (.int .i64 ((nth (isort ltS (xs.filter okB)) ((i : Int))).2))])] mixed st18 (by kernel_rfl) ⟨r0, r1, r2, trivial⟩
              ⟨Ob.det rfl rfl rfl (fun _ a_ _ _ c => r_move rfl (c.eo e6 (by kernel_rfl))),
                           Ob.det rfl rfl rfl (fun _ a_ _ _ c => r_loadN (vs := [(.int .i64 ((nth (isort ltS (xs.filter okB)) ((i : Int))).1)), (.int .i64 ((nth (isort ltS (xs.filter okB)) ((i : Int))).2))]) rfl Try.isAgg29 Try.sizeOf29 ((c.eo e8 (by kernel_rfl)).trans r2.ptr) rfl (fun _ _ hj => (c.ibox 2 rfl rfl (by kernel_rfl)).cell hj)),
                           Ob.buildSlice (cells := #[(.int .i64 ((nth (isort ltS (xs.filter okB)) ((i : Int))).1)), (.int .i64 ((nth (isort ltS (xs.filter okB)) ((i : Int))).2))]) rfl rfl rfl rfl Try.underlying22 Try.sizeOf29 Try.zeroValue29 rfl (by decide) (by decide) (fun _ a_ _ _ c => by simp only [List.map_toArray, List.map_cons, List.map_nil, (show a_.eval (.tmp 60) = (.agg #[(.int .i64 ((nth (isort ltS (xs.filter okB)) ((i : Int))).1)), (.int .i64 ((nth (isort ltS (xs.filter okB)) ((i : Int))).2))]) from (c.ev 1 rfl rfl))]; kernel_rfl) rfl,
                           Ob.append (t0 := 6) rfl rfl rfl rfl Try.underlying22 (i := Try.t29) rfl rfl rfl rfl (by simp only [maxLen]; (try simp); omega) (by show _ * 16 ≤ _; (try simp); omega) (fun _ _ _ _ c => ⟨by rw [(show get _ 6 = o from c.old e6 (by kernel_rfl))]; exact c.iown 1 rfl rfl (by kernel_rfl), (c.ev 0 rfl rfl).trans (show o = get _ 6 from (c.old e6 (by kernel_rfl)).symm), ⟨_, rfl, (c.rown 2 rfl rfl (by kernel_rfl)).1.sl⟩⟩),
                           Ob.moveT (t0 := 62) rfl rfl rfl rfl rfl (.inr rfl) (fun _ _ _ _ c => ⟨c.rown 3 rfl rfl (by kernel_rfl), rfl⟩),
               trivial⟩ ?_
            intro a21 w21 τ21 st21 f21
            obtain ⟨b21x61, e61⟩ : ∃ b, get a21 61 = b := ⟨_, rfl⟩
            obtain ⟨b21x6, e6⟩ : ∃ b, get a21 6 = b := ⟨_, rfl⟩
            replace e0 := f21.old e0 (by kernel_rfl)
            replace e2 := f21.old e2 (by kernel_rfl)
            replace e3 := f21.old e3 (by kernel_rfl)
            replace e8 := f21.old e8 (by kernel_rfl)
            replace e9 := f21.old e9 (by kernel_rfl)
            replace e10 := f21.old e10 (by kernel_rfl)
            replace e11 := f21.old e11 (by kernel_rfl)
            replace e12 := f21.old e12 (by kernel_rfl)
            replace e13 := f21.old e13 (by kernel_rfl)
            replace e28 := f21.old e28 (by kernel_rfl)
            replace e29 := f21.old e29 (by kernel_rfl)
            replace e30 := f21.old e30 (by kernel_rfl)
            replace e31 := f21.old e31 (by kernel_rfl)
            replace e46 := f21.old e46 (by kernel_rfl)
            replace r0 : ownR SpanE 29 (isort ltS (xs.filter okB)) (τ21 0) u w21 := f21.iown 0 rfl rfl
            have r1 : ownR SpanE 29 ((joinF ((isort ltS (xs.filter okB)).take i)) ++ ([(nth (isort ltS (xs.filter okB)) ((i : Int)))])) (τ21 1) b21x6 w21 := f21.rown 4 rfl rfl e6
            replace r2 : boxR 29 [(.int .i64 ((nth (isort ltS (xs.filter okB)) ((i : Int))).1)), (.int .i64 ((nth (isort ltS (xs.filter okB)) ((i : Int))).2))] (τ21 2) b16x8 w21 := f21.ibox 2 rfl rfl
            have r3 : ownR SpanE 29 ([(nth (isort ltS (xs.filter okB)) ((i : Int)))]) (τ21 3) b21x61 w21 := f21.rown 2 rfl rfl e61
            clear f21
            show _
            show Code.wp _ _ _ a21 w21
            refine region_St (bf := [0, 1]) (sp := [
                (det (Nw w) 63 (.int .i64 ((i : Int) + 1))),
                            (det (Nw w) 30 (.int .i64 ((i : Int) + 1)))])
              [(iown SpanE 29 (Nw w) u (isort ltS (xs.filter okB))), (iown SpanE 29 (Nw w) b21x6 ((joinF ((isort ltS (xs.filter okB)).take i)) ++ ([(nth (isort ltS (xs.filter okB)) ((i : Int)))]))), (ibox 29 (Nw w) b16x8 [(.int .i64 ((nth (isort ltS (xs.filter okB)) ((i : Int))).1)), (.int .i64 ((nth (isort ltS (xs.filter okB)) ((i : Int))).2))]), (iown SpanE 29 (Nw w) b21x61 ([(nth (isort ltS (xs.filter okB)) ((i : Int)))]))] mixed st21 (by kernel_rfl) ⟨r0, r1, r2, r3, trivial⟩
              ⟨Ob.det rfl rfl rfl (fun _ a_ _ _ c => r_add rfl (c.eo e30 (by kernel_rfl)) rfl (by omega)),
                           Ob.det rfl rfl rfl (fun _ a_ _ _ c => r_move rfl (c.ev 0 rfl rfl)),
               trivial⟩ ?_
            intro a22 w22 τ22 st22 f22
            replace e0 := f22.old e0 (by kernel_rfl)
            replace e2 := f22.old e2 (by kernel_rfl)
            replace e3 := f22.old e3 (by kernel_rfl)
            replace e6 := f22.old e6 (by kernel_rfl)
            replace e8 := f22.old e8 (by kernel_rfl)
            replace e9 := f22.old e9 (by kernel_rfl)
            replace e10 := f22.old e10 (by kernel_rfl)
            replace e11 := f22.old e11 (by kernel_rfl)
            replace e12 := f22.old e12 (by kernel_rfl)
            replace e13 := f22.old e13 (by kernel_rfl)
            replace e28 := f22.old e28 (by kernel_rfl)
            replace e29 := f22.old e29 (by kernel_rfl)
            have e30 : get a22 30 = (.int .i64 ((i : Int) + 1)) := f22.v 1 rfl
            replace e31 := f22.old e31 (by kernel_rfl)
            replace e46 := f22.old e46 (by kernel_rfl)
            replace r0 : ownR SpanE 29 (isort ltS (xs.filter okB)) (τ22 0) u w22 := f22.iown 0 rfl rfl
            replace r1 : ownR SpanE 29 ((joinF ((isort ltS (xs.filter okB)).take i)) ++ ([(nth (isort ltS (xs.filter okB)) ((i : Int)))])) (τ22 1) b21x6 w22 := f22.iown 1 rfl rfl
            replace r2 : boxR 29 [(.int .i64 ((nth (isort ltS (xs.filter okB)) ((i : Int))).1)), (.int .i64 ((nth (isort ltS (xs.filter okB)) ((i : Int))).2))] (τ22 2) b16x8 w22 := f22.ibox 2 rfl rfl
            replace r3 : ownR SpanE 29 ([(nth (isort ltS (xs.filter okB)) ((i : Int)))]) (τ22 3) b21x61 w22 := f22.iown 3 rfl rfl
            clear f22
            refine ⟨⟨i + 1, b21x6, τ22, ?_, st22, e6, (e30.trans (int_eq (by omega))), e0, e2, e3, e10, e11, e12, e13, e28, e29, ?_, r0⟩, ?_⟩
            · omega
            · exact r1.cast (by first | exact joinF_hit (by omega) (by assumption) | exact joinF_miss (by omega) (by assumption))
            · simp only [m30, e30, intOf]; omega
        · try simp only [Bool.and_eq_true, Bool.or_eq_true, decide_eq_true_eq, decide_eq_false_iff_not, Bool.not_eq_true', Bool.and_eq_false_iff, Bool.or_eq_false_iff, Bool.not_eq_false', Int.not_lt, Int.not_le, beq_iff_eq, spanB] at hc3
          refine wp_exit ?_
          repeat (with_reducible refine then_exit ?_)
          refine exit_here ?_
          show Code.wp _ _ _ a15 w15
          refine wp_seq ?_
          refine region_St (bf := [0, 1]) (sp := [
              (det (Nw w) 64 o),
                        (det (Nw w) 2 o)])
            [(iown SpanE 29 (Nw w) u (isort ltS (xs.filter okB))), (iown SpanE 29 (Nw w) o (joinF ((isort ltS (xs.filter okB)).take i)))] mixed st15 (by kernel_rfl) ⟨r0, r1, trivial⟩
            ⟨Ob.det rfl rfl rfl (fun _ a_ _ _ c => r_move rfl (c.eo e6 (by kernel_rfl))),
                       Ob.det rfl rfl rfl (fun _ a_ _ _ c => r_assign rfl (c.ev 0 rfl rfl)),
             trivial⟩ ?_
          intro a23 w23 τ23 st23 f23
          replace e0 := f23.old e0 (by kernel_rfl)
          have e2 : get a23 2 = o := f23.v 1 rfl
          replace e3 := f23.old e3 (by kernel_rfl)
          replace e6 := f23.old e6 (by kernel_rfl)
          replace e10 := f23.old e10 (by kernel_rfl)
          replace e11 := f23.old e11 (by kernel_rfl)
          replace e12 := f23.old e12 (by kernel_rfl)
          replace e13 := f23.old e13 (by kernel_rfl)
          replace e28 := f23.old e28 (by kernel_rfl)
          replace e29 := f23.old e29 (by kernel_rfl)
          replace e30 := f23.old e30 (by kernel_rfl)
          replace e31 := f23.old e31 (by kernel_rfl)
          replace r0 : ownR SpanE 29 (isort ltS (xs.filter okB)) (τ23 0) u w23 := f23.iown 0 rfl rfl
          replace r1 : ownR SpanE 29 (joinF ((isort ltS (xs.filter okB)).take i)) (τ23 1) o w23 := f23.iown 1 rfl rfl
          clear f23
          show Code.wp _ _ _ a23 w23
          refine wp_ret ?_
          repeat (first | with_reducible refine then_ret ?_ | with_reducible refine block_ret ?_)
          refine ret1 (fn := Try.f13) rfl st23.defers e2 ?_
          replace r1 := r1.cast (show unionF xs = _ from by rw [unionF, List.take_of_length_le (l := isort ltS (xs.filter okB)) (by omega)])
          exact ⟨_, rfl, st23.ext0, r1.1, fun g_ h_ => (st23.bnd _ g_ (r1.2 g_ h_)).1⟩

set_option maxRecDepth 100000 in
theorem apart_c (v : Value) (xs : List (Int × Int)) (w : World) (hS : SlT SpanE w v xs) (hbig : xs.length ≤ 1000000000000) : Calls Try.prog 17 #[v] w (fun e w' => e = .returned (.bool (apartF (isort ltS xs))) ∧ Ext none' w w') := by
  refine enter (n := 49) Try.func17 rfl rfl (Nat.le_of_ble_eq_true rfl) ?_
  intro a0 τ0 ha st0
  have e0 : get a0 0 = v := ha 0 _ rfl
  clear ha
  have hle := hS.le
  refine wp_seq ?_
  refine region_St (bf := [0]) (sp := [
      (det (Nw w) 2 (.bool (false)))])
    [] mixed st0 (by kernel_rfl) trivial
    ⟨Ob.det rfl rfl rfl (fun _ a_ _ _ c => r_assign rfl rfl),
     trivial⟩ ?_
  intro a1 w1 τ1 st1 f1
  replace e0 := f1.old e0 (by kernel_rfl)
  have e2 : get a1 2 = (.bool (false)) := f1.v 0 rfl
  clear f1
  show Code.wp _ _ _ a1 w1
  refine wp_seq ?_
  refine region_St (bf := [0, 1, 3]) (sp := [
      (det (Nw w) 6 v),
        (own SpanE 29 (Nw w) 1 7 (xs)),
        (own SpanE 29 (Nw w) 1 3 (xs))])
    [] mixed st1 (by kernel_rfl) trivial
    ⟨Ob.det rfl rfl rfl (fun _ a_ _ _ c => r_move rfl (c.eo e0 (by kernel_rfl))),
       Ob.callOwn rfl rfl rfl (fun _ a_ _ _ c => ⟨_, _, (e_call1 rfl rfl Try.call31 (c.ev 0 rfl rfl)), spanClone_c v xs _ (hS.at (st1.ext.trans c.J.ext)) (by omega)⟩),
       Ob.moveT (t0 := 7) rfl rfl rfl rfl rfl (.inr rfl) (fun _ _ _ _ c => ⟨c.rown 1 rfl rfl (by kernel_rfl), rfl⟩),
     trivial⟩ ?_
  intro a2 w2 τ2 st2 f2
  obtain ⟨b2x3, e3⟩ : ∃ b, get a2 3 = b := ⟨_, rfl⟩
  replace e0 := f2.old e0 (by kernel_rfl)
  replace e2 := f2.old e2 (by kernel_rfl)
  have r1 : ownR SpanE 29 (xs) (τ2 1) b2x3 w2 := f2.rown 2 rfl rfl e3
  clear f2
  show Code.wp _ _ _ a2 w2
  refine wp_seq ?_
  refine region_St (bf := [0, 1]) (sp := [
      (det (Nw w) 8 b2x3),
        (own SpanE 29 (Nw w) 1 3 (isort ltS xs))])
    [(Ini.any (Nw w)), (iown SpanE 29 (Nw w) b2x3 (xs))] mixed st2 (by kernel_rfl) ⟨trivial, r1, trivial⟩
    ⟨Ob.det rfl rfl rfl (fun _ a_ _ _ c => r_move rfl (c.eo e3 (by kernel_rfl))),
       Ob.callIn rfl rfl rfl (by decide) (fun _ a_ _ _ c => ⟨_, _, (e_call2 rfl rfl Try.call28 (c.ev 0 rfl rfl) rfl), c.old e3 (by kernel_rfl), c.iown 1 rfl rfl (by kernel_rfl), fun ho_ => spanSort_c b2x3 xs _ ho_ (by omega)⟩),
     trivial⟩ ?_
  intro a3 w3 τ3 st3 f3
  replace e0 := f3.old e0 (by kernel_rfl)
  replace e2 := f3.old e2 (by kernel_rfl)
  replace e3 := f3.old e3 (by kernel_rfl)
  have r1 : ownR SpanE 29 (isort ltS xs) (τ3 1) b2x3 w3 := f3.rown 1 rfl rfl e3
  clear f3
  have hil := isort_length (lt := ltS) xs
  show Code.wp _ _ _ a3 w3
  refine wp_seq ?_
  refine wp_seq ?_
  refine region_St (bf := [0, 1, 0]) (sp := [
      (det (Nw w) 10 b2x3),
        (det (Nw w) 11 (.int .i64 (((isort ltS xs).length : Int)))),
        (det (Nw w) 12 (.int .i64 (0)))])
    [(Ini.any (Nw w)), (iown SpanE 29 (Nw w) b2x3 (isort ltS xs))] mixed st3 (by kernel_rfl) ⟨trivial, r1, trivial⟩
    ⟨Ob.det rfl rfl rfl (fun _ a_ _ _ c => r_move rfl (c.eo e3 (by kernel_rfl))),
       Ob.det rfl rfl rfl (fun _ a_ _ _ c => r_len rfl Try.underlying22 (c.ev 0 rfl rfl) r1.isSl),
       Ob.det rfl rfl rfl (fun _ a_ _ _ c => r_move rfl rfl),
     trivial⟩ ?_
  intro a4 w4 τ4 st4 f4
  replace e0 := f4.old e0 (by kernel_rfl)
  replace e2 := f4.old e2 (by kernel_rfl)
  replace e3 := f4.old e3 (by kernel_rfl)
  have e10 : get a4 10 = b2x3 := f4.v 0 rfl
  have e11 : get a4 11 = (.int .i64 (((isort ltS xs).length : Int))) := f4.v 1 rfl
  have e12 : get a4 12 = (.int .i64 (0)) := f4.v 2 rfl
  replace r1 : ownR SpanE 29 (isort ltS xs) (τ4 1) b2x3 w4 := f4.iown 1 rfl rfl
  clear f4
  show Code.wp _ _ _ a4 w4
  refine wp_block ?_
  refine wp_loop (fun a_ w_ => ∃ (k : Nat) (τ : Nat → Foot), (k ≤ (isort ltS xs).length) ∧
        (∀ i < k, badS (isort ltS xs) (i : Int) = false) ∧
        St (Nw w) w 49 a_ w_ τ ∧
        get a_ 12 = (.int .i64 ((k : Int))) ∧
        get a_ 0 = v ∧
        get a_ 3 = b2x3 ∧
        get a_ 10 = b2x3 ∧
        get a_ 11 = (.int .i64 (((isort ltS xs).length : Int))) ∧
        ownR SpanE 29 (isort ltS xs) (τ 1) b2x3 w_) (fun a_ _ => (isort ltS xs).length - (intOf (get a_ 12)).toNat) ?_ ?_
  · refine ⟨0, τ4, ?_, ?_, st4, (e12.trans (int_eq (by omega))), e0, e3, e10, e11, r1⟩
    · omega
    · intro i hi; omega
  · intro a5 w5 hI
    obtain ⟨k, τ5, q0, q1, st5, e12, e0, e3, e10, e11, r1⟩ := hI
    have m12 := e12
    refine wp_seq ?_
    refine region_St (bf := [0]) (sp := [
        (det (Nw w) 13 (.bool (decide ((k : Int) < ((isort ltS xs).length : Int)))))])
      [(Ini.any (Nw w)), (iown SpanE 29 (Nw w) b2x3 (isort ltS xs))] mixed st5 (by kernel_rfl) ⟨trivial, r1, trivial⟩
      ⟨Ob.det rfl rfl rfl (fun _ a_ _ _ c => r_lss rfl (c.eo e12 (by kernel_rfl)) (c.eo e11 (by kernel_rfl))),
       trivial⟩ ?_
    intro a6 w6 τ6 st6 f6
    replace e0 := f6.old e0 (by kernel_rfl)
    replace e3 := f6.old e3 (by kernel_rfl)
    replace e10 := f6.old e10 (by kernel_rfl)
    replace e11 := f6.old e11 (by kernel_rfl)
    replace e12 := f6.old e12 (by kernel_rfl)
    have e13 : get a6 13 = (.bool (decide ((k : Int) < ((isort ltS xs).length : Int)))) := f6.v 0 rfl
    replace r1 : ownR SpanE 29 (isort ltS xs) (τ6 1) b2x3 w6 := f6.iown 1 rfl rfl
    clear f6
    show Code.wp _ _ _ a6 w6
    refine wp_seq ?_
    refine wp_cond_split (t := decide ((k : Int) < ((isort ltS xs).length : Int))) e13 (fun hc1 => ?_) (fun hc1 => ?_)
    · try simp only [Bool.and_eq_true, Bool.or_eq_true, decide_eq_true_eq, decide_eq_false_iff_not, Bool.not_eq_true', Bool.and_eq_false_iff, Bool.or_eq_false_iff, Bool.not_eq_false', Int.not_lt, Int.not_le, beq_iff_eq, spanB] at hc1
      refine wp_skip ?_
      show Code.wp _ _ _ a6 w6
      refine wp_seq ?_
      refine wp_block ?_
      refine wp_seq ?_
      refine region_St (bf := [0, 0, 2, 0, 15, 31]) (sp := [
          (det (Nw w) 14 (.int .i64 ((k : Int)))),
                (det (Nw w) 15 (.pointer (some ((ptrOf b2x3).add (((k : Int) : Int).toNat * 2))))),
                (det (Nw w) 16 (.agg #[(.int .i64 ((nth (isort ltS xs) ((k : Int))).1)), (.int .i64 ((nth (isort ltS xs) ((k : Int))).2))])),
                (box 29 (Nw w) 2 5 [(.int .i64 (0)), (.int .i64 (0))]),
                (det (Nw w) 4 (.int .i64 ((k : Int)))),
                (box 29 (Nw w) 2 5 [(.int .i64 ((nth (isort ltS xs) ((k : Int))).1)), (.int .i64 ((nth (isort ltS xs) ((k : Int))).2))])])
        [(Ini.any (Nw w)), (iown SpanE 29 (Nw w) b2x3 (isort ltS xs))] mixed st6 (by kernel_rfl) ⟨trivial, r1, trivial⟩
        ⟨Ob.det rfl rfl rfl (fun _ a_ _ _ c => r_move rfl (c.eo e12 (by kernel_rfl))),
               Ob.det rfl rfl rfl (fun _ a_ _ _ c => r_indexAddr rfl Try.underlying22 Try.sizeOf29 (c.eo e10 (by kernel_rfl)) r1.isSl (c.eo e12 (by kernel_rfl)) (by omega) (by omega)),
               Ob.det rfl rfl rfl (fun _ a_ _ _ c => r_loadN (vs := [(.int .i64 ((nth (isort ltS xs) ((k : Int))).1)), (.int .i64 ((nth (isort ltS xs) ((k : Int))).2))]) rfl Try.isAgg29 Try.sizeOf29 (c.ev 1 rfl rfl) rfl (fun _ _ hj => ((c.iown 1 rfl rfl (by kernel_rfl)).1.sl).elem (nth_some (by omega) (by omega)) hj)),
               Ob.alloc rfl rfl rfl rfl Try.zeroValue29 rfl,
               Ob.det rfl rfl rfl (fun _ a_ _ _ c => r_assign rfl (c.ev 0 rfl rfl)),
               Ob.storeBox (off := 0) (v := (.agg #[(.int .i64 ((nth (isort ltS xs) ((k : Int))).1)), (.int .i64 ((nth (isort ltS xs) ((k : Int))).2))])) rfl rfl rfl rfl Try.sizeOf29 (Nat.le_of_ble_eq_true rfl) (by simp [Value.cells, Value.oneCell']) rfl (fun _ _ _ _ c => ⟨c.rbox 3 rfl rfl (by kernel_rfl), (c.rbox 3 rfl rfl (by kernel_rfl)).ptr, (c.ev 2 rfl rfl)⟩),
         trivial⟩ ?_
      intro a7 w7 τ7 st7 f7
      obtain ⟨b7x5, e5⟩ : ∃ b, get a7 5 = b := ⟨_, rfl⟩
      replace e0 := f7.old e0 (by kernel_rfl)
      replace e3 := f7.old e3 (by kernel_rfl)
      have e4 : get a7 4 = (.int .i64 ((k : Int))) := f7.v 4 rfl
      replace e10 := f7.old e10 (by kernel_rfl)
      replace e11 := f7.old e11 (by kernel_rfl)
      replace e12 := f7.old e12 (by kernel_rfl)
      replace e13 := f7.old e13 (by kernel_rfl)
      replace r1 : ownR SpanE 29 (isort ltS xs) (τ7 1) b2x3 w7 := f7.iown 1 rfl rfl
      have r2 : boxR 29 [(.int .i64 ((nth (isort ltS xs) ((k : Int))).1)), (.int .i64 ((nth (isort ltS xs) ((k : Int))).2))] (τ7 2) b7x5 w7 := f7.rbox 5 rfl rfl e5
      clear f7
      show Code.wp _ _ _ a7 w7
      refine wp_seq ?_
      refine region_St (bf := [0, 1, 0, 4, 15, 31, 63, 127, 255, 511, 1023, 511, 511, 4607, 14847, 31231, 63999, 131071, 262143, 524287, 1048575, 524287, 524287, 4718591, 15204351, 31981567, 65535999, 134217727, 268435455, 536870911, 1073741823]) (sp := [
          (det (Nw w) 17 (.pointer (some ((ptrOf b7x5).add 0)))),
                (det (Nw w) 18 (.int .i64 ((nth (isort ltS xs) ((k : Int))).1))),
                (det (Nw w) 19 (.pointer (some ((ptrOf b7x5).add 1)))),
                (det (Nw w) 20 (.int .i64 ((nth (isort ltS xs) ((k : Int))).2))),
                (det (Nw w) 21 (.bool (decide ((nth (isort ltS xs) ((k : Int))).2 < (nth (isort ltS xs) ((k : Int))).1)))),
                (det (Nw w) 22 (.bool (decide ((nth (isort ltS xs) ((k : Int))).2 < (nth (isort ltS xs) ((k : Int))).1)))),
                (gdet (Nw w) 23 ((decide ((nth (isort ltS xs) ((k : Int))).2 < (nth (isort ltS xs) ((k : Int))).1)) = false) (.int .i64 ((k : Int)))),
                (gdet (Nw w) 24 ((decide ((nth (isort ltS xs) ((k : Int))).2 < (nth (isort ltS xs) ((k : Int))).1)) = false) (.bool (decide (0 < (k : Int))))),
                (gdet (Nw w) 25 ((decide ((nth (isort ltS xs) ((k : Int))).2 < (nth (isort ltS xs) ((k : Int))).1)) = false) (.bool (decide (0 < (k : Int))))),
                (gdet (Nw w) 26 (((decide ((nth (isort ltS xs) ((k : Int))).2 < (nth (isort ltS xs) ((k : Int))).1)) = false) ∧ (decide (0 < (k : Int))) = true) (.pointer (some ((ptrOf b7x5).add 0)))),
                (gdet (Nw w) 27 (((decide ((nth (isort ltS xs) ((k : Int))).2 < (nth (isort ltS xs) ((k : Int))).1)) = false) ∧ (decide (0 < (k : Int))) = true) (.int .i64 ((nth (isort ltS xs) ((k : Int))).1))),
                (gdet (Nw w) 28 (((decide ((nth (isort ltS xs) ((k : Int))).2 < (nth (isort ltS xs) ((k : Int))).1)) = false) ∧ (decide (0 < (k : Int))) = true) b2x3),
                (gdet (Nw w) 29 (((decide ((nth (isort ltS xs) ((k : Int))).2 < (nth (isort ltS xs) ((k : Int))).1)) = false) ∧ (decide (0 < (k : Int))) = true) (.int .i64 ((k : Int)))),
                (gdet (Nw w) 30 (((decide ((nth (isort ltS xs) ((k : Int))).2 < (nth (isort ltS xs) ((k : Int))).1)) = false) ∧ (decide (0 < (k : Int))) = true) (.int .i64 ((k : Int) - 1))),
                (gdet (Nw w) 31 (((decide ((nth (isort ltS xs) ((k : Int))).2 < (nth (isort ltS xs) ((k : Int))).1)) = false) ∧ (decide (0 < (k : Int))) = true) (.pointer (some ((ptrOf b2x3).add (((k : Int) - 1 : Int).toNat * 2))))),
                (gdet (Nw w) 32 (((decide ((nth (isort ltS xs) ((k : Int))).2 < (nth (isort ltS xs) ((k : Int))).1)) = false) ∧ (decide (0 < (k : Int))) = true) (.pointer (some (((ptrOf b2x3).add (((k : Int) - 1 : Int).toNat * 2)).add 0)))),
                (gdet (Nw w) 33 (((decide ((nth (isort ltS xs) ((k : Int))).2 < (nth (isort ltS xs) ((k : Int))).1)) = false) ∧ (decide (0 < (k : Int))) = true) (.int .i64 ((nth (isort ltS xs) ((k : Int) - 1)).1))),
                (gdet (Nw w) 34 (((decide ((nth (isort ltS xs) ((k : Int))).2 < (nth (isort ltS xs) ((k : Int))).1)) = false) ∧ (decide (0 < (k : Int))) = true) (.bool (decide ((nth (isort ltS xs) ((k : Int))).1 = (nth (isort ltS xs) ((k : Int) - 1)).1)))),
                (gdet (Nw w) 35 (((decide ((nth (isort ltS xs) ((k : Int))).2 < (nth (isort ltS xs) ((k : Int))).1)) = false) ∧ (decide (0 < (k : Int))) = true) (.bool (decide ((nth (isort ltS xs) ((k : Int))).1 = (nth (isort ltS xs) ((k : Int) - 1)).1)))),
                (gdet (Nw w) 36 ((((decide ((nth (isort ltS xs) ((k : Int))).2 < (nth (isort ltS xs) ((k : Int))).1)) = false) ∧ (decide (0 < (k : Int))) = true) ∧ (decide ((nth (isort ltS xs) ((k : Int))).1 = (nth (isort ltS xs) ((k : Int) - 1)).1)) = false) (.pointer (some ((ptrOf b7x5).add 0)))),
                (gdet (Nw w) 37 ((((decide ((nth (isort ltS xs) ((k : Int))).2 < (nth (isort ltS xs) ((k : Int))).1)) = false) ∧ (decide (0 < (k : Int))) = true) ∧ (decide ((nth (isort ltS xs) ((k : Int))).1 = (nth (isort ltS xs) ((k : Int) - 1)).1)) = false) (.int .i64 ((nth (isort ltS xs) ((k : Int))).1))),
                (gdet (Nw w) 38 ((((decide ((nth (isort ltS xs) ((k : Int))).2 < (nth (isort ltS xs) ((k : Int))).1)) = false) ∧ (decide (0 < (k : Int))) = true) ∧ (decide ((nth (isort ltS xs) ((k : Int))).1 = (nth (isort ltS xs) ((k : Int) - 1)).1)) = false) b2x3),
                (gdet (Nw w) 39 ((((decide ((nth (isort ltS xs) ((k : Int))).2 < (nth (isort ltS xs) ((k : Int))).1)) = false) ∧ (decide (0 < (k : Int))) = true) ∧ (decide ((nth (isort ltS xs) ((k : Int))).1 = (nth (isort ltS xs) ((k : Int) - 1)).1)) = false) (.int .i64 ((k : Int)))),
                (gdet (Nw w) 40 ((((decide ((nth (isort ltS xs) ((k : Int))).2 < (nth (isort ltS xs) ((k : Int))).1)) = false) ∧ (decide (0 < (k : Int))) = true) ∧ (decide ((nth (isort ltS xs) ((k : Int))).1 = (nth (isort ltS xs) ((k : Int) - 1)).1)) = false) (.int .i64 ((k : Int) - 1))),
                (gdet (Nw w) 41 ((((decide ((nth (isort ltS xs) ((k : Int))).2 < (nth (isort ltS xs) ((k : Int))).1)) = false) ∧ (decide (0 < (k : Int))) = true) ∧ (decide ((nth (isort ltS xs) ((k : Int))).1 = (nth (isort ltS xs) ((k : Int) - 1)).1)) = false) (.pointer (some ((ptrOf b2x3).add (((k : Int) - 1 : Int).toNat * 2))))),
                (gdet (Nw w) 42 ((((decide ((nth (isort ltS xs) ((k : Int))).2 < (nth (isort ltS xs) ((k : Int))).1)) = false) ∧ (decide (0 < (k : Int))) = true) ∧ (decide ((nth (isort ltS xs) ((k : Int))).1 = (nth (isort ltS xs) ((k : Int) - 1)).1)) = false) (.pointer (some (((ptrOf b2x3).add (((k : Int) - 1 : Int).toNat * 2)).add 1)))),
                (gdet (Nw w) 43 ((((decide ((nth (isort ltS xs) ((k : Int))).2 < (nth (isort ltS xs) ((k : Int))).1)) = false) ∧ (decide (0 < (k : Int))) = true) ∧ (decide ((nth (isort ltS xs) ((k : Int))).1 = (nth (isort ltS xs) ((k : Int) - 1)).1)) = false) (.int .i64 ((nth (isort ltS xs) ((k : Int) - 1)).2))),
                (gdet (Nw w) 44 ((((decide ((nth (isort ltS xs) ((k : Int))).2 < (nth (isort ltS xs) ((k : Int))).1)) = false) ∧ (decide (0 < (k : Int))) = true) ∧ (decide ((nth (isort ltS xs) ((k : Int))).1 = (nth (isort ltS xs) ((k : Int) - 1)).1)) = false) (.bool (decide ((nth (isort ltS xs) ((k : Int))).1 < (nth (isort ltS xs) ((k : Int) - 1)).2)))),
                (gdet (Nw w) 45 (((decide ((nth (isort ltS xs) ((k : Int))).2 < (nth (isort ltS xs) ((k : Int))).1)) = false) ∧ (decide (0 < (k : Int))) = true) (.bool ((decide ((nth (isort ltS xs) ((k : Int))).1 = (nth (isort ltS xs) ((k : Int) - 1)).1)) || (decide ((nth (isort ltS xs) ((k : Int))).1 < (nth (isort ltS xs) ((k : Int) - 1)).2))))),
                (gdet (Nw w) 46 ((decide ((nth (isort ltS xs) ((k : Int))).2 < (nth (isort ltS xs) ((k : Int))).1)) = false) (.bool ((decide (0 < (k : Int))) && ((decide ((nth (isort ltS xs) ((k : Int))).1 = (nth (isort ltS xs) ((k : Int) - 1)).1)) || (decide ((nth (isort ltS xs) ((k : Int))).1 < (nth (isort ltS xs) ((k : Int) - 1)).2)))))),
                (det (Nw w) 47 (.bool ((decide ((nth (isort ltS xs) ((k : Int))).2 < (nth (isort ltS xs) ((k : Int))).1)) || ((decide (0 < (k : Int))) && ((decide ((nth (isort ltS xs) ((k : Int))).1 = (nth (isort ltS xs) ((k : Int) - 1)).1)) || (decide ((nth (isort ltS xs) ((k : Int))).1 < (nth (isort ltS xs) ((k : Int) - 1)).2)))))))])
        [(Ini.any (Nw w)), (iown SpanE 29 (Nw w) b2x3 (isort ltS xs)), (ibox 29 (Nw w) b7x5 [(.int .i64 ((nth (isort ltS xs) ((k : Int))).1)), (.int .i64 ((nth (isort ltS xs) ((k : Int))).2))])] mixed st7 (by kernel_rfl) ⟨trivial, r1, r2, trivial⟩
        ⟨Ob.det rfl rfl rfl (fun _ a_ _ _ c => r_fieldAddr rfl Try.underlying29 rfl rfl Try.sizeOf3 ((c.eo e5 (by kernel_rfl)).trans r2.ptr)),
               Ob.det rfl rfl rfl (fun _ a_ _ _ c => r_load1 rfl Try.isAgg3 (c.ev 0 rfl rfl) ((c.ibox 2 rfl rfl (by kernel_rfl)).cell (j := 0) rfl)),
               Ob.det rfl rfl rfl (fun _ a_ _ _ c => r_fieldAddr rfl Try.underlying29 rfl rfl Try.sizeOf3 ((c.eo e5 (by kernel_rfl)).trans r2.ptr)),
               Ob.det rfl rfl rfl (fun _ a_ _ _ c => r_load1 rfl Try.isAgg3 (c.ev 2 rfl rfl) ((c.ibox 2 rfl rfl (by kernel_rfl)).cell (j := 1) rfl)),
               Ob.det rfl rfl rfl (fun _ a_ _ _ c => r_gtr rfl (c.ev 1 rfl rfl) (c.ev 3 rfl rfl)),
               Ob.det rfl rfl rfl (fun _ a_ _ _ c => r_move rfl (c.ev 4 rfl rfl)),
               Ob.gdet rfl rfl rfl rfl (gi := 5) (tg := 22) rfl rfl Iff.rfl (fun _ a_ _ _ c hpc => r_move rfl (c.eo e4 (by kernel_rfl))),
               Ob.gdet rfl rfl rfl rfl (gi := 5) (tg := 22) rfl rfl Iff.rfl (fun _ a_ _ _ c hpc => r_gtr rfl (c.eg 6 rfl rfl hpc) rfl),
               Ob.gdet rfl rfl rfl rfl (gi := 5) (tg := 22) rfl rfl Iff.rfl (fun _ a_ _ _ c hpc => r_move rfl (c.eg 7 rfl rfl hpc)),
               Ob.ggdet rfl rfl rfl rfl (gi := 8) (tg := 25) rfl rfl Iff.rfl (fun _ a_ _ _ c hpc => r_fieldAddr rfl Try.underlying29 rfl rfl Try.sizeOf3 ((c.eo e5 (by kernel_rfl)).trans r2.ptr)),
               Ob.ggdet rfl rfl rfl rfl (gi := 8) (tg := 25) rfl rfl Iff.rfl (fun _ a_ _ _ c hpc => r_load1 rfl Try.isAgg3 (c.eg 9 rfl rfl hpc) ((c.ibox 2 rfl rfl (by kernel_rfl)).cell (j := 0) rfl)),
               Ob.ggdet rfl rfl rfl rfl (gi := 8) (tg := 25) rfl rfl Iff.rfl (fun _ a_ _ _ c hpc => r_move rfl (c.eo e3 (by kernel_rfl))),
               Ob.ggdet rfl rfl rfl rfl (gi := 8) (tg := 25) rfl rfl Iff.rfl (fun _ a_ _ _ c hpc => r_move rfl (c.eo e4 (by kernel_rfl))),
               Ob.ggdet rfl rfl rfl rfl (gi := 8) (tg := 25) rfl rfl Iff.rfl (fun _ a_ _ _ c hpc => r_sub rfl (c.eg 12 rfl rfl hpc) rfl (by have hq0 := hpc.2; have hq1 := hpc.1; (try simp only [Bool.and_eq_true, Bool.or_eq_true, decide_eq_true_eq, decide_eq_false_iff_not, Bool.not_eq_true', Bool.and_eq_false_iff, Bool.or_eq_false_iff, Bool.not_eq_false', Int.not_lt, Int.not_le, beq_iff_eq, spanB] at hq0 hq1); omega)),
               Ob.ggdet rfl rfl rfl rfl (gi := 8) (tg := 25) rfl rfl Iff.rfl (fun _ a_ _ _ c hpc => r_indexAddr rfl Try.underlying22 Try.sizeOf29 (c.eg 11 rfl rfl hpc) r1.isSl (c.eg 13 rfl rfl hpc) (by have hq0 := hpc.2; have hq1 := hpc.1; (try simp only [Bool.and_eq_true, Bool.or_eq_true, decide_eq_true_eq, decide_eq_false_iff_not, Bool.not_eq_true', Bool.and_eq_false_iff, Bool.or_eq_false_iff, Bool.not_eq_false', Int.not_lt, Int.not_le, beq_iff_eq, spanB] at hq0 hq1); omega) (by have hq0 := hpc.2; have hq1 := hpc.1; (try simp only [Bool.and_eq_true, Bool.or_eq_true, decide_eq_true_eq, decide_eq_false_iff_not, Bool.not_eq_true', Bool.and_eq_false_iff, Bool.or_eq_false_iff, Bool.not_eq_false', Int.not_lt, Int.not_le, beq_iff_eq, spanB] at hq0 hq1); omega)),
               Ob.ggdet rfl rfl rfl rfl (gi := 8) (tg := 25) rfl rfl Iff.rfl (fun _ a_ _ _ c hpc => r_fieldAddr rfl Try.underlying29 rfl rfl Try.sizeOf3 (c.eg 14 rfl rfl hpc)),
               Ob.ggdet rfl rfl rfl rfl (gi := 8) (tg := 25) rfl rfl Iff.rfl (fun _ a_ _ _ c hpc => r_load1 rfl Try.isAgg3 (c.eg 15 rfl rfl hpc) (((c.iown 1 rfl rfl (by kernel_rfl)).1.sl).elem (j := 0) (nth_some (by have hq0 := hpc.2; have hq1 := hpc.1; (try simp only [Bool.and_eq_true, Bool.or_eq_true, decide_eq_true_eq, decide_eq_false_iff_not, Bool.not_eq_true', Bool.and_eq_false_iff, Bool.or_eq_false_iff, Bool.not_eq_false', Int.not_lt, Int.not_le, beq_iff_eq, spanB] at hq0 hq1); omega) (by have hq0 := hpc.2; have hq1 := hpc.1; (try simp only [Bool.and_eq_true, Bool.or_eq_true, decide_eq_true_eq, decide_eq_false_iff_not, Bool.not_eq_true', Bool.and_eq_false_iff, Bool.or_eq_false_iff, Bool.not_eq_false', Int.not_lt, Int.not_le, beq_iff_eq, spanB] at hq0 hq1); omega)) rfl)),
               Ob.ggdet rfl rfl rfl rfl (gi := 8) (tg := 25) rfl rfl Iff.rfl (fun _ a_ _ _ c hpc => r_eql rfl (c.eg 10 rfl rfl hpc) (c.eg 16 rfl rfl hpc)),
               Ob.ggdet rfl rfl rfl rfl (gi := 8) (tg := 25) rfl rfl Iff.rfl (fun _ a_ _ _ c hpc => r_move rfl (c.eg 17 rfl rfl hpc)),
               Ob.ggdet rfl rfl rfl rfl (gi := 18) (tg := 35) rfl rfl Iff.rfl (fun _ a_ _ _ c hpc => r_fieldAddr rfl Try.underlying29 rfl rfl Try.sizeOf3 ((c.eo e5 (by kernel_rfl)).trans r2.ptr)),
               Ob.ggdet rfl rfl rfl rfl (gi := 18) (tg := 35) rfl rfl Iff.rfl (fun _ a_ _ _ c hpc => r_load1 rfl Try.isAgg3 (c.eg 19 rfl rfl hpc) ((c.ibox 2 rfl rfl (by kernel_rfl)).cell (j := 0) rfl)),
               Ob.ggdet rfl rfl rfl rfl (gi := 18) (tg := 35) rfl rfl Iff.rfl (fun _ a_ _ _ c hpc => r_move rfl (c.eo e3 (by kernel_rfl))),
               Ob.ggdet rfl rfl rfl rfl (gi := 18) (tg := 35) rfl rfl Iff.rfl (fun _ a_ _ _ c hpc => r_move rfl (c.eo e4 (by kernel_rfl))),
               Ob.ggdet rfl rfl rfl rfl (gi := 18) (tg := 35) rfl rfl Iff.rfl (fun _ a_ _ _ c hpc => r_sub rfl (c.eg 22 rfl rfl hpc) rfl (by have hq0 := hpc.2; have hq1 := hpc.1.2; have hq2 := hpc.1.1; (try simp only [Bool.and_eq_true, Bool.or_eq_true, decide_eq_true_eq, decide_eq_false_iff_not, Bool.not_eq_true', Bool.and_eq_false_iff, Bool.or_eq_false_iff, Bool.not_eq_false', Int.not_lt, Int.not_le, beq_iff_eq, spanB] at hq0 hq1 hq2); omega)),
               Ob.ggdet rfl rfl rfl rfl (gi := 18) (tg := 35) rfl rfl Iff.rfl (fun _ a_ _ _ c hpc => r_indexAddr rfl Try.underlying22 Try.sizeOf29 (c.eg 21 rfl rfl hpc) r1.isSl (c.eg 23 rfl rfl hpc) (by have hq0 := hpc.2; have hq1 := hpc.1.2; have hq2 := hpc.1.1; (try simp only [Bool.and_eq_true, Bool.or_eq_true, decide_eq_true_eq, decide_eq_false_iff_not, Bool.not_eq_true', Bool.and_eq_false_iff, Bool.or_eq_false_iff, Bool.not_eq_false', Int.not_lt, Int.not_le, beq_iff_eq, spanB] at hq0 hq1 hq2); omega) (by have hq0 := hpc.2; have hq1 := hpc.1.2; have hq2 := hpc.1.1; (try simp only [Bool.and_eq_true, Bool.or_eq_true, decide_eq_true_eq, decide_eq_false_iff_not, Bool.not_eq_true', Bool.and_eq_false_iff, Bool.or_eq_false_iff, Bool.not_eq_false', Int.not_lt, Int.not_le, beq_iff_eq, spanB] at hq0 hq1 hq2); omega)),
               Ob.ggdet rfl rfl rfl rfl (gi := 18) (tg := 35) rfl rfl Iff.rfl (fun _ a_ _ _ c hpc => r_fieldAddr rfl Try.underlying29 rfl rfl Try.sizeOf3 (c.eg 24 rfl rfl hpc)),
               Ob.ggdet rfl rfl rfl rfl (gi := 18) (tg := 35) rfl rfl Iff.rfl (fun _ a_ _ _ c hpc => r_load1 rfl Try.isAgg3 (c.eg 25 rfl rfl hpc) (((c.iown 1 rfl rfl (by kernel_rfl)).1.sl).elem (j := 1) (nth_some (by have hq0 := hpc.2; have hq1 := hpc.1.2; have hq2 := hpc.1.1; (try simp only [Bool.and_eq_true, Bool.or_eq_true, decide_eq_true_eq, decide_eq_false_iff_not, Bool.not_eq_true', Bool.and_eq_false_iff, Bool.or_eq_false_iff, Bool.not_eq_false', Int.not_lt, Int.not_le, beq_iff_eq, spanB] at hq0 hq1 hq2); omega) (by have hq0 := hpc.2; have hq1 := hpc.1.2; have hq2 := hpc.1.1; (try simp only [Bool.and_eq_true, Bool.or_eq_true, decide_eq_true_eq, decide_eq_false_iff_not, Bool.not_eq_true', Bool.and_eq_false_iff, Bool.or_eq_false_iff, Bool.not_eq_false', Int.not_lt, Int.not_le, beq_iff_eq, spanB] at hq0 hq1 hq2); omega)) rfl)),
               Ob.ggdet rfl rfl rfl rfl (gi := 18) (tg := 35) rfl rfl Iff.rfl (fun _ a_ _ _ c hpc => r_lss rfl (c.eg 20 rfl rfl hpc) (c.eg 26 rfl rfl hpc)),
               Ob.ggdet rfl rfl rfl rfl (gi := 8) (tg := 25) rfl rfl Iff.rfl (fun _ a_ _ _ c hpc => r_or rfl (c.eg 18 rfl rfl hpc) (fun h => (c.eg 27 rfl rfl ⟨hpc, h⟩))),
               Ob.gdet rfl rfl rfl rfl (gi := 5) (tg := 22) rfl rfl Iff.rfl (fun _ a_ _ _ c hpc => r_and rfl (c.eg 8 rfl rfl hpc) (fun h => (c.eg 28 rfl rfl ⟨hpc, h⟩))),
               Ob.det rfl rfl rfl (fun _ a_ _ _ c => r_or rfl (c.ev 5 rfl rfl) (fun h => (c.eg 29 rfl rfl h))),
         trivial⟩ ?_
      intro a8 w8 τ8 st8 f8
      replace e0 := f8.old e0 (by kernel_rfl)
      replace e3 := f8.old e3 (by kernel_rfl)
      replace e4 := f8.old e4 (by kernel_rfl)
      replace e5 := f8.old e5 (by kernel_rfl)
      replace e10 := f8.old e10 (by kernel_rfl)
      replace e11 := f8.old e11 (by kernel_rfl)
      replace e12 := f8.old e12 (by kernel_rfl)
      replace e13 := f8.old e13 (by kernel_rfl)
      have e47 : get a8 47 = (.bool ((decide ((nth (isort ltS xs) ((k : Int))).2 < (nth (isort ltS xs) ((k : Int))).1)) || ((decide (0 < (k : Int))) && ((decide ((nth (isort ltS xs) ((k : Int))).1 = (nth (isort ltS xs) ((k : Int) - 1)).1)) || (decide ((nth (isort ltS xs) ((k : Int))).1 < (nth (isort ltS xs) ((k : Int) - 1)).2)))))) := f8.v 30 rfl
      replace r1 : ownR SpanE 29 (isort ltS xs) (τ8 1) b2x3 w8 := f8.iown 1 rfl rfl
      replace r2 : boxR 29 [(.int .i64 ((nth (isort ltS xs) ((k : Int))).1)), (.int .i64 ((nth (isort ltS xs) ((k : Int))).2))] (τ8 2) b7x5 w8 := f8.ibox 2 rfl rfl
      clear f8
      show Code.wp _ _ _ a8 w8
      refine wp_cond_split (t := (decide ((nth (isort ltS xs) ((k : Int))).2 < (nth (isort ltS xs) ((k : Int))).1)) || ((decide (0 < (k : Int))) && ((decide ((nth (isort ltS xs) ((k : Int))).1 = (nth (isort ltS xs) ((k : Int) - 1)).1)) || (decide ((nth (isort ltS xs) ((k : Int))).1 < (nth (isort ltS xs) ((k : Int) - 1)).2))))) e47 (fun hc2 => ?_) (fun hc2 => ?_)
      · have hd2 := hc2; try simp only [Bool.and_eq_true, Bool.or_eq_true, decide_eq_true_eq, decide_eq_false_iff_not, Bool.not_eq_true', Bool.and_eq_false_iff, Bool.or_eq_false_iff, Bool.not_eq_false', Int.not_lt, Int.not_le, beq_iff_eq, spanB] at hd2
        refine wp_seq ?_
        refine region_St (bf := [0]) (sp := [
            (det (Nw w) 2 (.bool (false)))])
          [(Ini.any (Nw w)), (iown SpanE 29 (Nw w) b2x3 (isort ltS xs)), (ibox 29 (Nw w) b7x5 [(.int .i64 ((nth (isort ltS xs) ((k : Int))).1)), (.int .i64 ((nth (isort ltS xs) ((k : Int))).2))])] mixed st8 (by kernel_rfl) ⟨trivial, r1, r2, trivial⟩
          ⟨Ob.det rfl rfl rfl (fun _ a_ _ _ c => r_assign rfl rfl),
           trivial⟩ ?_
        intro a9 w9 τ9 st9 f9
        replace e0 := f9.old e0 (by kernel_rfl)
        have e2 : get a9 2 = (.bool (false)) := f9.v 0 rfl
        replace e3 := f9.old e3 (by kernel_rfl)
        replace e4 := f9.old e4 (by kernel_rfl)
        replace e5 := f9.old e5 (by kernel_rfl)
        replace e10 := f9.old e10 (by kernel_rfl)
        replace e11 := f9.old e11 (by kernel_rfl)
        replace e12 := f9.old e12 (by kernel_rfl)
        replace e13 := f9.old e13 (by kernel_rfl)
        replace e47 := f9.old e47 (by kernel_rfl)
        replace r1 : ownR SpanE 29 (isort ltS xs) (τ9 1) b2x3 w9 := f9.iown 1 rfl rfl
        replace r2 : boxR 29 [(.int .i64 ((nth (isort ltS xs) ((k : Int))).1)), (.int .i64 ((nth (isort ltS xs) ((k : Int))).2))] (τ9 2) b7x5 w9 := f9.ibox 2 rfl rfl
        clear f9
        show Code.wp _ _ _ a9 w9
        refine wp_ret ?_
        repeat (first | with_reducible refine then_ret ?_ | with_reducible refine block_ret ?_)
        refine ret1 (fn := Try.f17) rfl st9.defers e2 ?_
        exact ⟨congrArg _ (congrArg _ (by exact (apartF_no (k := k) (by omega) (by assumption)).symm)), st9.ext0⟩
      · have hd2 := hc2; try simp only [Bool.and_eq_true, Bool.or_eq_true, decide_eq_true_eq, decide_eq_false_iff_not, Bool.not_eq_true', Bool.and_eq_false_iff, Bool.or_eq_false_iff, Bool.not_eq_false', Int.not_lt, Int.not_le, beq_iff_eq, spanB] at hd2
        refine wp_skip ?_
        show _
        show Code.wp _ _ _ a8 w8
        refine region_St (bf := [0, 1]) (sp := [
            (det (Nw w) 48 (.int .i64 ((k : Int) + 1))),
                    (det (Nw w) 12 (.int .i64 ((k : Int) + 1)))])
          [(Ini.any (Nw w)), (iown SpanE 29 (Nw w) b2x3 (isort ltS xs)), (ibox 29 (Nw w) b7x5 [(.int .i64 ((nth (isort ltS xs) ((k : Int))).1)), (.int .i64 ((nth (isort ltS xs) ((k : Int))).2))])] mixed st8 (by kernel_rfl) ⟨trivial, r1, r2, trivial⟩
          ⟨Ob.det rfl rfl rfl (fun _ a_ _ _ c => r_add rfl (c.eo e12 (by kernel_rfl)) rfl (by omega)),
                   Ob.det rfl rfl rfl (fun _ a_ _ _ c => r_move rfl (c.ev 0 rfl rfl)),
           trivial⟩ ?_
        intro a10 w10 τ10 st10 f10
        replace e0 := f10.old e0 (by kernel_rfl)
        replace e3 := f10.old e3 (by kernel_rfl)
        replace e4 := f10.old e4 (by kernel_rfl)
        replace e5 := f10.old e5 (by kernel_rfl)
        replace e10 := f10.old e10 (by kernel_rfl)
        replace e11 := f10.old e11 (by kernel_rfl)
        have e12 : get a10 12 = (.int .i64 ((k : Int) + 1)) := f10.v 1 rfl
        replace e13 := f10.old e13 (by kernel_rfl)
        replace e47 := f10.old e47 (by kernel_rfl)
        replace r1 : ownR SpanE 29 (isort ltS xs) (τ10 1) b2x3 w10 := f10.iown 1 rfl rfl
        replace r2 : boxR 29 [(.int .i64 ((nth (isort ltS xs) ((k : Int))).1)), (.int .i64 ((nth (isort ltS xs) ((k : Int))).2))] (τ10 2) b7x5 w10 := f10.ibox 2 rfl rfl
        clear f10
        refine ⟨⟨k + 1, τ10, ?_, ?_, st10, (e12.trans (int_eq (by omega))), e0, e3, e10, e11, r1⟩, ?_⟩
        · omega
        · exact upto_succ q1 (by assumption)
        · simp only [m12, e12, intOf]; omega
    · try simp only [Bool.and_eq_true, Bool.or_eq_true, decide_eq_true_eq, decide_eq_false_iff_not, Bool.not_eq_true', Bool.and_eq_false_iff, Bool.or_eq_false_iff, Bool.not_eq_false', Int.not_lt, Int.not_le, beq_iff_eq, spanB] at hc1
      refine wp_exit ?_
      repeat (with_reducible refine then_exit ?_)
      refine exit_here ?_
      show Code.wp _ _ _ a6 w6
      refine wp_seq ?_
      refine region_St (bf := [0]) (sp := [
          (det (Nw w) 2 (.bool (true)))])
        [(Ini.any (Nw w)), (iown SpanE 29 (Nw w) b2x3 (isort ltS xs))] mixed st6 (by kernel_rfl) ⟨trivial, r1, trivial⟩
        ⟨Ob.det rfl rfl rfl (fun _ a_ _ _ c => r_assign rfl rfl),
         trivial⟩ ?_
      intro a11 w11 τ11 st11 f11
      replace e0 := f11.old e0 (by kernel_rfl)
      have e2 : get a11 2 = (.bool (true)) := f11.v 0 rfl
      replace e3 := f11.old e3 (by kernel_rfl)
      replace e10 := f11.old e10 (by kernel_rfl)
      replace e11 := f11.old e11 (by kernel_rfl)
      replace e12 := f11.old e12 (by kernel_rfl)
      replace e13 := f11.old e13 (by kernel_rfl)
      replace r1 : ownR SpanE 29 (isort ltS xs) (τ11 1) b2x3 w11 := f11.iown 1 rfl rfl
      clear f11
      show Code.wp _ _ _ a11 w11
      refine wp_ret ?_
      repeat (first | with_reducible refine then_ret ?_ | with_reducible refine block_ret ?_)
      refine ret1 (fn := Try.f17) rfl st11.defers e2 ?_
      exact ⟨congrArg _ (congrArg _ (by exact (apartF_yes q1 (by omega)).symm)), st11.ext0⟩
end B
end Go.Proofs.Ytgcpgdhadeekcaa
