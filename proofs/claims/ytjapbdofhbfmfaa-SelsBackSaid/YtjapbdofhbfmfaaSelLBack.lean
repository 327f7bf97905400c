/-
  Walks, printed by a program (gen.py): SelLBack.
-/
import Derived.Test.YtjapbdofhbfmfaaSelQ
set_option linter.unusedSimpArgs false
set_option linter.unusedVariables false
namespace Go.Proofs.Ytjapbdofhbfmfaa
namespace B
open Go.RowKit
open Srt
set_option maxRecDepth 100000 in
theorem selsBack_c (v : Value) (xs : List (Int × Int)) (b : Bool) (w : World) (hS : SlT SpanE w v xs) : Calls Try.prog 4 #[v, (.bool (b))] w (fun e w' => e = .returned (.bool (true)) ∧ Ext none' w w') := by
  refine enter (n := 149) Try.func4 rfl rfl (Nat.le_of_ble_eq_true rfl) ?_
  intro a0 τ0 ha st0
  have e0 : get a0 0 = v := ha 0 _ rfl
  have e1 : get a0 1 = (.bool (b)) := ha 1 _ rfl
  clear ha
  have hle := hS.le
  have hsl := someF_len xs
  refine wp_seq ?_
  refine region_St (bf := [0]) (sp := [
      (det (Nw w) 4 (.bool (false)))])
    [] mixed st0 (by kernel_rfl) trivial
    ⟨Ob.det rfl rfl rfl (fun _ a_ _ _ c => r_assign rfl rfl),
     trivial⟩ ?_
  intro a1 w1 τ1 st1 f1
  replace e0 := f1.old e0 (by kernel_rfl)
  replace e1 := f1.old e1 (by kernel_rfl)
  have e4 : get a1 4 = (.bool (false)) := f1.v 0 rfl
  clear f1
  show Code.wp _ _ _ a1 w1
  refine wp_seq ?_
  refine wp_seq ?_
  refine region_St (bf := [0, 1, 3, 7, 15, 31, 63, 127]) (sp := [
      (det (Nw w) 14 v),
        (det (Nw w) 15 (.int .i64 ((xs.length : Int)))),
        (det (Nw w) 16 (.bool (decide ((xs.length : Int) = 0)))),
        (det (Nw w) 17 (.bool (decide ((xs.length : Int) = 0)))),
        (gdet (Nw w) 18 ((decide ((xs.length : Int) = 0)) = false) v),
        (gdet (Nw w) 19 ((decide ((xs.length : Int) = 0)) = false) (.int .i64 ((xs.length : Int)))),
        (gdet (Nw w) 20 ((decide ((xs.length : Int) = 0)) = false) (.bool (decide (64 < (xs.length : Int))))),
        (det (Nw w) 21 (.bool ((decide ((xs.length : Int) = 0)) || (decide (64 < (xs.length : Int))))))])
    [] mixed st1 (by kernel_rfl) trivial
    ⟨Ob.det rfl rfl rfl (fun _ a_ _ _ c => r_move rfl (c.eo e0 (by kernel_rfl))),
       Ob.det rfl rfl rfl (fun _ a_ _ _ c => r_len rfl Try.underlying23 (c.ev 0 rfl rfl) hS.sl),
       Ob.det rfl rfl rfl (fun _ a_ _ _ c => r_eql rfl (c.ev 1 rfl rfl) rfl),
       Ob.det rfl rfl rfl (fun _ a_ _ _ c => r_move rfl (c.ev 2 rfl rfl)),
       Ob.gdet rfl rfl rfl rfl (gi := 3) (tg := 17) rfl rfl Iff.rfl (fun _ a_ _ _ c hpc => r_move rfl (c.eo e0 (by kernel_rfl))),
       Ob.gdet rfl rfl rfl rfl (gi := 3) (tg := 17) rfl rfl Iff.rfl (fun _ a_ _ _ c hpc => r_len rfl Try.underlying23 (c.eg 4 rfl rfl hpc) hS.sl),
       Ob.gdet rfl rfl rfl rfl (gi := 3) (tg := 17) rfl rfl Iff.rfl (fun _ a_ _ _ c hpc => r_gtr rfl (c.eg 5 rfl rfl hpc) rfl),
       Ob.det rfl rfl rfl (fun _ a_ _ _ c => r_or rfl (c.ev 3 rfl rfl) (fun h => (c.eg 6 rfl rfl h))),
     trivial⟩ ?_
  intro a2 w2 τ2 st2 f2
  replace e0 := f2.old e0 (by kernel_rfl)
  replace e1 := f2.old e1 (by kernel_rfl)
  replace e4 := f2.old e4 (by kernel_rfl)
  have e21 : get a2 21 = (.bool ((decide ((xs.length : Int) = 0)) || (decide (64 < (xs.length : Int))))) := f2.v 7 rfl
  clear f2
  show Code.wp _ _ _ a2 w2
  refine wp_cond_split (t := (decide ((xs.length : Int) = 0)) || (decide (64 < (xs.length : Int)))) e21 (fun hc1 => ?_) (fun hc1 => ?_)
  · try simp only [Bool.and_eq_true, Bool.or_eq_true, decide_eq_true_eq, decide_eq_false_iff_not, Bool.not_eq_true', Bool.and_eq_false_iff, Bool.or_eq_false_iff, Bool.not_eq_false', Int.not_lt, Int.not_le, beq_iff_eq, selB] at hc1
    refine wp_seq ?_
    refine region_St (bf := [0, 1]) (sp := [
        (det (Nw w) 22 (.bool (true))),
            (det (Nw w) 4 (.bool (true)))])
      [] mixed st2 (by kernel_rfl) trivial
      ⟨Ob.call rfl rfl rfl (fun _ a_ _ _ c => ⟨_, _, (e_call0 rfl rfl Try.call9), awake_c _⟩),
           Ob.det rfl rfl rfl (fun _ a_ _ _ c => r_assign rfl (c.ev 0 rfl rfl)),
       trivial⟩ ?_
    intro a3 w3 τ3 st3 f3
    replace e0 := f3.old e0 (by kernel_rfl)
    replace e1 := f3.old e1 (by kernel_rfl)
    have e4 : get a3 4 = (.bool (true)) := f3.v 1 rfl
    clear f3
    show Code.wp _ _ _ a3 w3
    refine wp_ret ?_
    repeat (first | with_reducible refine then_ret ?_ | with_reducible refine block_ret ?_)
    refine ret1 (fn := Try.f4) rfl st3.defers e4 ?_
    exact ⟨rfl, st3.ext0⟩
  try simp only [Bool.and_eq_true, Bool.or_eq_true, decide_eq_true_eq, decide_eq_false_iff_not, Bool.not_eq_true', Bool.and_eq_false_iff, Bool.or_eq_false_iff, Bool.not_eq_false', Int.not_lt, Int.not_le, beq_iff_eq, selB] at hc1
  refine wp_skip ?_
  show Code.wp _ _ _ a2 w2
  refine wp_seq ?_
  refine region_St (bf := [0, 1, 3]) (sp := [
      (det (Nw w) 23 v),
        (own SpanE 33 (Nw w) 0 24 (someF xs)),
        (own SpanE 33 (Nw w) 0 5 (someF xs))])
    [] mixed st2 (by kernel_rfl) trivial
    ⟨Ob.det rfl rfl rfl (fun _ a_ _ _ c => r_move rfl (c.eo e0 (by kernel_rfl))),
       Ob.callOwn rfl rfl rfl (fun _ a_ _ _ c => ⟨_, _, (e_call1 rfl rfl Try.call12 (c.ev 0 rfl rfl)), some_c v xs _ (hS.at (st2.ext.trans c.J.ext)) (by first | omega | (simp only [List.length_cons, List.length_nil]; omega) | (simp only [List.length_set]; omega))⟩),
       Ob.moveT (t0 := 24) rfl rfl rfl rfl rfl (.inr rfl) (fun _ _ _ _ c => ⟨c.rown 1 rfl rfl (by kernel_rfl), rfl⟩),
     trivial⟩ ?_
  intro a4 w4 τ4 st4 f4
  obtain ⟨b4x5, e5⟩ : ∃ b, get a4 5 = b := ⟨_, rfl⟩
  replace e1 := f4.old e1 (by kernel_rfl)
  replace e4 := f4.old e4 (by kernel_rfl)
  have r0 : ownR SpanE 33 (someF xs) (τ4 0) b4x5 w4 := f4.rown 2 rfl rfl e5
  clear f4
  show Code.wp _ _ _ a4 w4
  refine wp_seq ?_
  refine wp_seq ?_
  refine region_St (bf := [0]) (sp := [
      (det (Nw w) 6 (.int .i64 (0)))])
    [(iown SpanE 33 (Nw w) b4x5 (someF xs))] mixed st4 (by kernel_rfl) ⟨r0, trivial⟩
    ⟨Ob.det rfl rfl rfl (fun _ a_ _ _ c => r_assign rfl rfl),
     trivial⟩ ?_
  intro a5 w5 τ5 st5 f5
  replace e1 := f5.old e1 (by kernel_rfl)
  replace e4 := f5.old e4 (by kernel_rfl)
  replace e5 := f5.old e5 (by kernel_rfl)
  have e6 : get a5 6 = (.int .i64 (0)) := f5.v 0 rfl
  replace r0 : ownR SpanE 33 (someF xs) (τ5 0) b4x5 w5 := f5.iown 0 rfl rfl
  clear f5
  show Code.wp _ _ _ a5 w5
  refine wp_block ?_
  refine wp_loop (fun a_ w_ => ∃ (i : Nat) (τ : Nat → Foot), (i ≤ xs.length) ∧
        St (Nw w) w 149 a_ w_ τ ∧
        get a_ 6 = (.int .i64 ((i : Int))) ∧
        get a_ 1 = (.bool (b)) ∧
        get a_ 4 = (.bool (false)) ∧
        get a_ 5 = b4x5 ∧
        ownR SpanE 33 (bk b (someF xs) i) (τ 0) b4x5 w_) (fun a_ _ => xs.length - (intOf (get a_ 6)).toNat) ?_ ?_
  · refine ⟨0, τ5, ?_, st5, (e6.trans (int_eq (by omega))), e1, e4, e5, ?_⟩
    · omega
    · exact r0.cast (by simp [bk])
  intro a6 w6 hI
  obtain ⟨i, τ6, q0, st6, e6, e1, e4, e5, r0⟩ := hI
  have hkl := bk_len b (someF xs) i
  have hbd := bk_at (b := b) (xs := xs) (i := i)
  have m6 := e6
  refine wp_seq ?_
  refine wp_seq ?_
  refine region_St (bf := [0, 0, 2, 7]) (sp := [
      (det (Nw w) 25 (.int .i64 ((i : Int)))),
        (det (Nw w) 26 b4x5),
        (det (Nw w) 27 (.int .i64 (((bk b (someF xs) i).length : Int)))),
        (det (Nw w) 28 (.bool (decide ((i : Int) < ((bk b (someF xs) i).length : Int)))))])
    [(iown SpanE 33 (Nw w) b4x5 (bk b (someF xs) i))] mixed st6 (by kernel_rfl) ⟨r0, trivial⟩
    ⟨Ob.det rfl rfl rfl (fun _ a_ _ _ c => r_move rfl (c.eo e6 (by kernel_rfl))),
       Ob.det rfl rfl rfl (fun _ a_ _ _ c => r_move rfl (c.eo e5 (by kernel_rfl))),
       Ob.det rfl rfl rfl (fun _ a_ _ _ c => r_len rfl Try.underlying22 (c.ev 1 rfl rfl) r0.isSl),
       Ob.det rfl rfl rfl (fun _ a_ _ _ c => r_lss rfl (c.ev 0 rfl rfl) (c.ev 2 rfl rfl)),
     trivial⟩ ?_
  intro a7 w7 τ7 st7 f7
  replace e1 := f7.old e1 (by kernel_rfl)
  replace e4 := f7.old e4 (by kernel_rfl)
  replace e5 := f7.old e5 (by kernel_rfl)
  replace e6 := f7.old e6 (by kernel_rfl)
  have e28 : get a7 28 = (.bool (decide ((i : Int) < ((bk b (someF xs) i).length : Int)))) := f7.v 3 rfl
  replace r0 : ownR SpanE 33 (bk b (someF xs) i) (τ7 0) b4x5 w7 := f7.iown 0 rfl rfl
  clear f7
  show Code.wp _ _ _ a7 w7
  refine wp_cond_split (t := decide ((i : Int) < ((bk b (someF xs) i).length : Int))) e28 (fun hc2 => ?_) (fun hc2 => ?_)
  · try simp only [Bool.and_eq_true, Bool.or_eq_true, decide_eq_true_eq, decide_eq_false_iff_not, Bool.not_eq_true', Bool.and_eq_false_iff, Bool.or_eq_false_iff, Bool.not_eq_false', Int.not_lt, Int.not_le, beq_iff_eq, selB] at hc2
    refine wp_skip ?_
    show Code.wp _ _ _ a7 w7
    refine wp_seq ?_
    refine wp_block ?_
    refine wp_seq ?_
    refine region_St (bf := [0, 0, 3, 7, 15, 0, 0, 96, 224, 480, 1023, 0, 0, 6144, 14336, 30720, 0, 0, 196608, 458752, 983040, 2095104, 4192256, 2047, 16777215]) (sp := [
        (det (Nw w) 31 b4x5),
            (det (Nw w) 32 (.int .i64 ((i : Int)))),
            (det (Nw w) 33 (.pointer (some ((ptrOf b4x5).add (((i : Int) : Int).toNat * 2))))),
            (det (Nw w) 34 (.pointer (some (((ptrOf b4x5).add (((i : Int) : Int).toNat * 2)).add 0)))),
            (det (Nw w) 35 (.int .i64 ((nth (bk b (someF xs) i) ((i : Int))).1))),
            (det (Nw w) 36 b4x5),
            (det (Nw w) 37 (.int .i64 ((i : Int)))),
            (det (Nw w) 38 (.pointer (some ((ptrOf b4x5).add (((i : Int) : Int).toNat * 2))))),
            (det (Nw w) 39 (.pointer (some (((ptrOf b4x5).add (((i : Int) : Int).toNat * 2)).add 1)))),
            (det (Nw w) 40 (.int .i64 ((nth (bk b (someF xs) i) ((i : Int))).2))),
            (det (Nw w) 41 (.int .i64 (min ((nth (bk b (someF xs) i) ((i : Int))).1) ((nth (bk b (someF xs) i) ((i : Int))).2)))),
            (det (Nw w) 42 b4x5),
            (det (Nw w) 43 (.int .i64 ((i : Int)))),
            (det (Nw w) 44 (.pointer (some ((ptrOf b4x5).add (((i : Int) : Int).toNat * 2))))),
            (det (Nw w) 45 (.pointer (some (((ptrOf b4x5).add (((i : Int) : Int).toNat * 2)).add 0)))),
            (det (Nw w) 46 (.int .i64 ((nth (bk b (someF xs) i) ((i : Int))).1))),
            (det (Nw w) 47 b4x5),
            (det (Nw w) 48 (.int .i64 ((i : Int)))),
            (det (Nw w) 49 (.pointer (some ((ptrOf b4x5).add (((i : Int) : Int).toNat * 2))))),
            (det (Nw w) 50 (.pointer (some (((ptrOf b4x5).add (((i : Int) : Int).toNat * 2)).add 1)))),
            (det (Nw w) 51 (.int .i64 ((nth (bk b (someF xs) i) ((i : Int))).2))),
            (det (Nw w) 52 (.int .i64 (max ((nth (bk b (someF xs) i) ((i : Int))).1) ((nth (bk b (someF xs) i) ((i : Int))).2)))),
            (det (Nw w) 53 (.int .i64 (max ((nth (bk b (someF xs) i) ((i : Int))).1) ((nth (bk b (someF xs) i) ((i : Int))).2) + 1))),
            (det (Nw w) 7 (.int .i64 (min ((nth (bk b (someF xs) i) ((i : Int))).1) ((nth (bk b (someF xs) i) ((i : Int))).2)))),
            (det (Nw w) 8 (.int .i64 (max ((nth (bk b (someF xs) i) ((i : Int))).1) ((nth (bk b (someF xs) i) ((i : Int))).2) + 1)))])
      [(iown SpanE 33 (Nw w) b4x5 (bk b (someF xs) i))] mixed st7 (by kernel_rfl) ⟨r0, trivial⟩
      ⟨Ob.det rfl rfl rfl (fun _ a_ _ _ c => r_move rfl (c.eo e5 (by kernel_rfl))),
           Ob.det rfl rfl rfl (fun _ a_ _ _ c => r_move rfl (c.eo e6 (by kernel_rfl))),
           Ob.det rfl rfl rfl (fun _ a_ _ _ c => r_indexAddr rfl Try.underlying22 Try.sizeOf33 (c.ev 0 rfl rfl) r0.isSl (c.ev 1 rfl rfl) (by first | omega | (simp only [List.length_cons, List.length_nil]; omega) | (simp only [List.length_set]; omega)) (by first | omega | (simp only [List.length_cons, List.length_nil]; omega) | (simp only [List.length_set]; omega))),
           Ob.det rfl rfl rfl (fun _ a_ _ _ c => r_fieldAddr rfl Try.underlying33 rfl rfl Try.sizeOf3 (c.ev 2 rfl rfl)),
           Ob.det rfl rfl rfl (fun _ a_ _ _ c => r_load1 rfl Try.isAgg3 (c.ev 3 rfl rfl) (((c.iown 0 rfl rfl (by kernel_rfl)).1.sl).elem (j := 0) (nth_some (by first | omega | (simp only [List.length_cons, List.length_nil]; omega) | (simp only [List.length_set]; omega)) (by first | omega | (simp only [List.length_cons, List.length_nil]; omega) | (simp only [List.length_set]; omega))) rfl)),
           Ob.det rfl rfl rfl (fun _ a_ _ _ c => r_move rfl (c.eo e5 (by kernel_rfl))),
           Ob.det rfl rfl rfl (fun _ a_ _ _ c => r_move rfl (c.eo e6 (by kernel_rfl))),
           Ob.det rfl rfl rfl (fun _ a_ _ _ c => r_indexAddr rfl Try.underlying22 Try.sizeOf33 (c.ev 5 rfl rfl) r0.isSl (c.ev 6 rfl rfl) (by first | omega | (simp only [List.length_cons, List.length_nil]; omega) | (simp only [List.length_set]; omega)) (by first | omega | (simp only [List.length_cons, List.length_nil]; omega) | (simp only [List.length_set]; omega))),
           Ob.det rfl rfl rfl (fun _ a_ _ _ c => r_fieldAddr rfl Try.underlying33 rfl rfl Try.sizeOf3 (c.ev 7 rfl rfl)),
           Ob.det rfl rfl rfl (fun _ a_ _ _ c => r_load1 rfl Try.isAgg3 (c.ev 8 rfl rfl) (((c.iown 0 rfl rfl (by kernel_rfl)).1.sl).elem (j := 1) (nth_some (by first | omega | (simp only [List.length_cons, List.length_nil]; omega) | (simp only [List.length_set]; omega)) (by first | omega | (simp only [List.length_cons, List.length_nil]; omega) | (simp only [List.length_set]; omega))) rfl)),
           Ob.det rfl rfl rfl (fun _ a_ _ _ c => r_min rfl (c.ev 4 rfl rfl) (c.ev 9 rfl rfl)),
           Ob.det rfl rfl rfl (fun _ a_ _ _ c => r_move rfl (c.eo e5 (by kernel_rfl))),
           Ob.det rfl rfl rfl (fun _ a_ _ _ c => r_move rfl (c.eo e6 (by kernel_rfl))),
           Ob.det rfl rfl rfl (fun _ a_ _ _ c => r_indexAddr rfl Try.underlying22 Try.sizeOf33 (c.ev 11 rfl rfl) r0.isSl (c.ev 12 rfl rfl) (by first | omega | (simp only [List.length_cons, List.length_nil]; omega) | (simp only [List.length_set]; omega)) (by first | omega | (simp only [List.length_cons, List.length_nil]; omega) | (simp only [List.length_set]; omega))),
           Ob.det rfl rfl rfl (fun _ a_ _ _ c => r_fieldAddr rfl Try.underlying33 rfl rfl Try.sizeOf3 (c.ev 13 rfl rfl)),
           Ob.det rfl rfl rfl (fun _ a_ _ _ c => r_load1 rfl Try.isAgg3 (c.ev 14 rfl rfl) (((c.iown 0 rfl rfl (by kernel_rfl)).1.sl).elem (j := 0) (nth_some (by first | omega | (simp only [List.length_cons, List.length_nil]; omega) | (simp only [List.length_set]; omega)) (by first | omega | (simp only [List.length_cons, List.length_nil]; omega) | (simp only [List.length_set]; omega))) rfl)),
           Ob.det rfl rfl rfl (fun _ a_ _ _ c => r_move rfl (c.eo e5 (by kernel_rfl))),
           Ob.det rfl rfl rfl (fun _ a_ _ _ c => r_move rfl (c.eo e6 (by kernel_rfl))),
           Ob.det rfl rfl rfl (fun _ a_ _ _ c => r_indexAddr rfl Try.underlying22 Try.sizeOf33 (c.ev 16 rfl rfl) r0.isSl (c.ev 17 rfl rfl) (by first | omega | (simp only [List.length_cons, List.length_nil]; omega) | (simp only [List.length_set]; omega)) (by first | omega | (simp only [List.length_cons, List.length_nil]; omega) | (simp only [List.length_set]; omega))),
           Ob.det rfl rfl rfl (fun _ a_ _ _ c => r_fieldAddr rfl Try.underlying33 rfl rfl Try.sizeOf3 (c.ev 18 rfl rfl)),
           Ob.det rfl rfl rfl (fun _ a_ _ _ c => r_load1 rfl Try.isAgg3 (c.ev 19 rfl rfl) (((c.iown 0 rfl rfl (by kernel_rfl)).1.sl).elem (j := 1) (nth_some (by first | omega | (simp only [List.length_cons, List.length_nil]; omega) | (simp only [List.length_set]; omega)) (by first | omega | (simp only [List.length_cons, List.length_nil]; omega) | (simp only [List.length_set]; omega))) rfl)),
           Ob.det rfl rfl rfl (fun _ a_ _ _ c => r_max rfl (c.ev 15 rfl rfl) (c.ev 20 rfl rfl)),
           Ob.det rfl rfl rfl (fun _ a_ _ _ c => r_add rfl (c.ev 21 rfl rfl) rfl (by first | omega | (simp only [List.length_cons, List.length_nil]; omega) | (simp only [List.length_set]; omega))),
           Ob.det rfl rfl rfl (fun _ a_ _ _ c => r_assign rfl (c.ev 10 rfl rfl)),
           Ob.det rfl rfl rfl (fun _ a_ _ _ c => r_assign rfl (c.ev 22 rfl rfl)),
       trivial⟩ ?_
    intro a8 w8 τ8 st8 f8
    replace e1 := f8.old e1 (by kernel_rfl)
    replace e4 := f8.old e4 (by kernel_rfl)
    replace e5 := f8.old e5 (by kernel_rfl)
    replace e6 := f8.old e6 (by kernel_rfl)
    have e7 : get a8 7 = (.int .i64 (min ((nth (bk b (someF xs) i) ((i : Int))).1) ((nth (bk b (someF xs) i) ((i : Int))).2))) := f8.v 23 rfl
    have e8 : get a8 8 = (.int .i64 (max ((nth (bk b (someF xs) i) ((i : Int))).1) ((nth (bk b (someF xs) i) ((i : Int))).2) + 1)) := f8.v 24 rfl
    replace e28 := f8.old e28 (by kernel_rfl)
    replace r0 : ownR SpanE 33 (bk b (someF xs) i) (τ8 0) b4x5 w8 := f8.iown 0 rfl rfl
    clear f8
    show Code.wp _ _ _ a8 w8
    refine wp_seq ?_
    refine region_St (bf := [0, 0, 0, 0, 12, 31, 63]) (sp := [
        (det (Nw w) 54 b4x5),
            (det (Nw w) 55 (.int .i64 ((i : Int)))),
            (det (Nw w) 56 (.int .i64 (min ((nth (bk b (someF xs) i) ((i : Int))).1) ((nth (bk b (someF xs) i) ((i : Int))).2)))),
            (det (Nw w) 57 (.int .i64 (max ((nth (bk b (someF xs) i) ((i : Int))).1) ((nth (bk b (someF xs) i) ((i : Int))).2) + 1))),
            (det (Nw w) 58 (.agg #[(.int .i64 (min ((nth (bk b (someF xs) i) ((i : Int))).1) ((nth (bk b (someF xs) i) ((i : Int))).2))), (.int .i64 (max ((nth (bk b (someF xs) i) ((i : Int))).1) ((nth (bk b (someF xs) i) ((i : Int))).2) + 1))])),
            (det (Nw w) 59 (.pointer (some ((ptrOf b4x5).add (((i : Int) : Int).toNat * 2))))),
            (own SpanE 33 (Nw w) 0 5 ((bk b (someF xs) i).set ((i : Int)).toNat (min ((nth (bk b (someF xs) i) ((i : Int))).1) ((nth (bk b (someF xs) i) ((i : Int))).2), max ((nth (bk b (someF xs) i) ((i : Int))).1) ((nth (bk b (someF xs) i) ((i : Int))).2) + 1)))])
      [(iown SpanE 33 (Nw w) b4x5 (bk b (someF xs) i))] mixed st8 (by kernel_rfl) ⟨r0, trivial⟩
      ⟨Ob.det rfl rfl rfl (fun _ a_ _ _ c => r_move rfl (c.eo e5 (by kernel_rfl))),
           Ob.det rfl rfl rfl (fun _ a_ _ _ c => r_move rfl (c.eo e6 (by kernel_rfl))),
           Ob.det rfl rfl rfl (fun _ a_ _ _ c => r_move rfl (c.eo e7 (by kernel_rfl))),
           Ob.det rfl rfl rfl (fun _ a_ _ _ c => r_move rfl (c.eo e8 (by kernel_rfl))),
           Ob.det rfl rfl rfl (fun _ a_ _ _ c => r_build (cells := #[(.int .i64 (min ((nth (bk b (someF xs) i) ((i : Int))).1) ((nth (bk b (someF xs) i) ((i : Int))).2))), (.int .i64 (max ((nth (bk b (someF xs) i) ((i : Int))).1) ((nth (bk b (someF xs) i) ((i : Int))).2) + 1))]) rfl Try.underlying33 Try.zeroValue33 (pl := #[(0, 1), (1, 1)]) (fun w_ => by simp [Try.sizeOf3]) (by simp only [List.map_toArray, List.map_cons, List.map_nil, (show a_.eval (.tmp 56) = (.int .i64 (min ((nth (bk b (someF xs) i) ((i : Int))).1) ((nth (bk b (someF xs) i) ((i : Int))).2))) from (c.ev 2 rfl rfl)), (show a_.eval (.tmp 57) = (.int .i64 (max ((nth (bk b (someF xs) i) ((i : Int))).1) ((nth (bk b (someF xs) i) ((i : Int))).2) + 1)) from (c.ev 3 rfl rfl))]; rfl)),
           Ob.det rfl rfl rfl (fun _ a_ _ _ c => r_indexAddr rfl Try.underlying22 Try.sizeOf33 (c.ev 0 rfl rfl) r0.isSl (c.ev 1 rfl rfl) (by first | omega | (simp only [List.length_cons, List.length_nil]; omega) | (simp only [List.length_set]; omega)) (by first | omega | (simp only [List.length_cons, List.length_nil]; omega) | (simp only [List.length_set]; omega))),
           Ob.storeElem (E := SpanE) (i := ((i : Int)).toNat) (off := 0) (u := (.agg #[(.int .i64 (min ((nth (bk b (someF xs) i) ((i : Int))).1) ((nth (bk b (someF xs) i) ((i : Int))).2))), (.int .i64 (max ((nth (bk b (someF xs) i) ((i : Int))).1) ((nth (bk b (someF xs) i) ((i : Int))).2) + 1))])) (x := nth (bk b (someF xs) i) ((i : Int))) (x' := (min ((nth (bk b (someF xs) i) ((i : Int))).1) ((nth (bk b (someF xs) i) ((i : Int))).2), max ((nth (bk b (someF xs) i) ((i : Int))).1) ((nth (bk b (someF xs) i) ((i : Int))).2) + 1)) rfl rfl rfl rfl Try.sizeOf33 (nth_some (by first | omega | (simp only [List.length_cons, List.length_nil]; omega) | (simp only [List.length_set]; omega)) (by (try simp only [List.length_set]); omega)) (Nat.le_of_ble_eq_true rfl) (by simp [Value.cells, Value.oneCell']) rfl (fun _ a_ _ _ c => ⟨by rw [(show get _ 5 = b4x5 from c.old e5 (by kernel_rfl))]; exact c.iown 0 rfl rfl (by kernel_rfl), (by rw [(c.ev 5 rfl rfl), (show get _ 5 = b4x5 from c.old e5 (by kernel_rfl))]; rfl), (c.ev 4 rfl rfl)⟩),
       trivial⟩ ?_
    intro a9 w9 τ9 st9 f9
    replace e1 := f9.old e1 (by kernel_rfl)
    replace e4 := f9.old e4 (by kernel_rfl)
    replace e5 := f9.old e5 (by kernel_rfl)
    replace e6 := f9.old e6 (by kernel_rfl)
    replace e7 := f9.old e7 (by kernel_rfl)
    replace e8 := f9.old e8 (by kernel_rfl)
    replace e28 := f9.old e28 (by kernel_rfl)
    have r0 : ownR SpanE 33 ((bk b (someF xs) i).set ((i : Int)).toNat (min ((nth (bk b (someF xs) i) ((i : Int))).1) ((nth (bk b (someF xs) i) ((i : Int))).2), max ((nth (bk b (someF xs) i) ((i : Int))).1) ((nth (bk b (someF xs) i) ((i : Int))).2) + 1)) (τ9 0) b4x5 w9 := f9.rown 6 rfl rfl e5
    clear f9
    show Code.wp _ _ _ a9 w9
    refine wp_seq ?_
    refine region_St (bf := [0]) (sp := [
        (det (Nw w) 60 (.bool (b)))])
      [(iown SpanE 33 (Nw w) b4x5 ((bk b (someF xs) i).set ((i : Int)).toNat (min ((nth (bk b (someF xs) i) ((i : Int))).1) ((nth (bk b (someF xs) i) ((i : Int))).2), max ((nth (bk b (someF xs) i) ((i : Int))).1) ((nth (bk b (someF xs) i) ((i : Int))).2) + 1)))] mixed st9 (by kernel_rfl) ⟨r0, trivial⟩
      ⟨Ob.det rfl rfl rfl (fun _ a_ _ _ c => r_move rfl (c.eo e1 (by kernel_rfl))),
       trivial⟩ ?_
    intro a10 w10 τ10 st10 f10
    replace e1 := f10.old e1 (by kernel_rfl)
    replace e4 := f10.old e4 (by kernel_rfl)
    replace e5 := f10.old e5 (by kernel_rfl)
    replace e6 := f10.old e6 (by kernel_rfl)
    replace e7 := f10.old e7 (by kernel_rfl)
    replace e8 := f10.old e8 (by kernel_rfl)
    replace e28 := f10.old e28 (by kernel_rfl)
    have e60 : get a10 60 = (.bool (b)) := f10.v 0 rfl
    replace r0 : ownR SpanE 33 ((bk b (someF xs) i).set ((i : Int)).toNat (min ((nth (bk b (someF xs) i) ((i : Int))).1) ((nth (bk b (someF xs) i) ((i : Int))).2), max ((nth (bk b (someF xs) i) ((i : Int))).1) ((nth (bk b (someF xs) i) ((i : Int))).2) + 1)) (τ10 0) b4x5 w10 := f10.iown 0 rfl rfl
    clear f10
    show Code.wp _ _ _ a10 w10
    refine wp_cond_split (t := b) e60 (fun hc3 => ?_) (fun hc3 => ?_)
    · try simp only [Bool.and_eq_true, Bool.or_eq_true, decide_eq_true_eq, decide_eq_false_iff_not, Bool.not_eq_true', Bool.and_eq_false_iff, Bool.or_eq_false_iff, Bool.not_eq_false', Int.not_lt, Int.not_le, beq_iff_eq, selB] at hc3
      refine region_St (bf := [0, 0, 0, 0, 12, 31, 63]) (sp := [
          (det (Nw w) 61 b4x5),
                (det (Nw w) 62 (.int .i64 ((i : Int)))),
                (det (Nw w) 63 (.int .i64 (max ((nth (bk b (someF xs) i) ((i : Int))).1) ((nth (bk b (someF xs) i) ((i : Int))).2) + 1))),
                (det (Nw w) 64 (.int .i64 (min ((nth (bk b (someF xs) i) ((i : Int))).1) ((nth (bk b (someF xs) i) ((i : Int))).2)))),
                (det (Nw w) 65 (.agg #[(.int .i64 (max ((nth (bk b (someF xs) i) ((i : Int))).1) ((nth (bk b (someF xs) i) ((i : Int))).2) + 1)), (.int .i64 (min ((nth (bk b (someF xs) i) ((i : Int))).1) ((nth (bk b (someF xs) i) ((i : Int))).2)))])),
                (det (Nw w) 66 (.pointer (some ((ptrOf b4x5).add (((i : Int) : Int).toNat * 2))))),
                (own SpanE 33 (Nw w) 0 5 (((bk b (someF xs) i).set ((i : Int)).toNat (min ((nth (bk b (someF xs) i) ((i : Int))).1) ((nth (bk b (someF xs) i) ((i : Int))).2), max ((nth (bk b (someF xs) i) ((i : Int))).1) ((nth (bk b (someF xs) i) ((i : Int))).2) + 1)).set ((i : Int)).toNat (max ((nth (bk b (someF xs) i) ((i : Int))).1) ((nth (bk b (someF xs) i) ((i : Int))).2) + 1, min ((nth (bk b (someF xs) i) ((i : Int))).1) ((nth (bk b (someF xs) i) ((i : Int))).2))))])
        [(iown SpanE 33 (Nw w) b4x5 ((bk b (someF xs) i).set ((i : Int)).toNat (min ((nth (bk b (someF xs) i) ((i : Int))).1) ((nth (bk b (someF xs) i) ((i : Int))).2), max ((nth (bk b (someF xs) i) ((i : Int))).1) ((nth (bk b (someF xs) i) ((i : Int))).2) + 1)))] mixed st10 (by kernel_rfl) ⟨r0, trivial⟩
        ⟨Ob.det rfl rfl rfl (fun _ a_ _ _ c => r_move rfl (c.eo e5 (by kernel_rfl))),
               Ob.det rfl rfl rfl (fun _ a_ _ _ c => r_move rfl (c.eo e6 (by kernel_rfl))),
               Ob.det rfl rfl rfl (fun _ a_ _ _ c => r_move rfl (c.eo e8 (by kernel_rfl))),
               Ob.det rfl rfl rfl (fun _ a_ _ _ c => r_move rfl (c.eo e7 (by kernel_rfl))),
               Ob.det rfl rfl rfl (fun _ a_ _ _ c => r_build (cells := #[(.int .i64 (max ((nth (bk b (someF xs) i) ((i : Int))).1) ((nth (bk b (someF xs) i) ((i : Int))).2) + 1)), (.int .i64 (min ((nth (bk b (someF xs) i) ((i : Int))).1) ((nth (bk b (someF xs) i) ((i : Int))).2)))]) rfl Try.underlying33 Try.zeroValue33 (pl := #[(0, 1), (1, 1)]) (fun w_ => by simp [Try.sizeOf3]) (by simp only [List.map_toArray, List.map_cons, List.map_nil, (show a_.eval (.tmp 63) = (.int .i64 (max ((nth (bk b (someF xs) i) ((i : Int))).1) ((nth (bk b (someF xs) i) ((i : Int))).2) + 1)) from (c.ev 2 rfl rfl)), (show a_.eval (.tmp 64) = (.int .i64 (min ((nth (bk b (someF xs) i) ((i : Int))).1) ((nth (bk b (someF xs) i) ((i : Int))).2))) from (c.ev 3 rfl rfl))]; rfl)),
               Ob.det rfl rfl rfl (fun _ a_ _ _ c => r_indexAddr rfl Try.underlying22 Try.sizeOf33 (c.ev 0 rfl rfl) r0.isSl (c.ev 1 rfl rfl) (by first | omega | (simp only [List.length_cons, List.length_nil]; omega) | (simp only [List.length_set]; omega)) (by first | omega | (simp only [List.length_cons, List.length_nil]; omega) | (simp only [List.length_set]; omega))),
               Ob.storeElem (E := SpanE) (i := ((i : Int)).toNat) (off := 0) (u := (.agg #[(.int .i64 (max ((nth (bk b (someF xs) i) ((i : Int))).1) ((nth (bk b (someF xs) i) ((i : Int))).2) + 1)), (.int .i64 (min ((nth (bk b (someF xs) i) ((i : Int))).1) ((nth (bk b (someF xs) i) ((i : Int))).2)))])) (x := nth ((bk b (someF xs) i).set ((i : Int)).toNat (min ((nth (bk b (someF xs) i) ((i : Int))).1) ((nth (bk b (someF xs) i) ((i : Int))).2), max ((nth (bk b (someF xs) i) ((i : Int))).1) ((nth (bk b (someF xs) i) ((i : Int))).2) + 1)) ((i : Int))) (x' := (max ((nth (bk b (someF xs) i) ((i : Int))).1) ((nth (bk b (someF xs) i) ((i : Int))).2) + 1, min ((nth (bk b (someF xs) i) ((i : Int))).1) ((nth (bk b (someF xs) i) ((i : Int))).2))) rfl rfl rfl rfl Try.sizeOf33 (nth_some (by first | omega | (simp only [List.length_cons, List.length_nil]; omega) | (simp only [List.length_set]; omega)) (by (try simp only [List.length_set]); omega)) (Nat.le_of_ble_eq_true rfl) (by simp [Value.cells, Value.oneCell']) rfl (fun _ a_ _ _ c => ⟨by rw [(show get _ 5 = b4x5 from c.old e5 (by kernel_rfl))]; exact c.iown 0 rfl rfl (by kernel_rfl), (by rw [(c.ev 5 rfl rfl), (show get _ 5 = b4x5 from c.old e5 (by kernel_rfl))]; rfl), (c.ev 4 rfl rfl)⟩),
         trivial⟩ ?_
      intro a11 w11 τ11 st11 f11
      replace e1 := f11.old e1 (by kernel_rfl)
      replace e4 := f11.old e4 (by kernel_rfl)
      replace e5 := f11.old e5 (by kernel_rfl)
      replace e6 := f11.old e6 (by kernel_rfl)
      replace e7 := f11.old e7 (by kernel_rfl)
      replace e8 := f11.old e8 (by kernel_rfl)
      replace e28 := f11.old e28 (by kernel_rfl)
      replace e60 := f11.old e60 (by kernel_rfl)
      have r0 : ownR SpanE 33 (((bk b (someF xs) i).set ((i : Int)).toNat (min ((nth (bk b (someF xs) i) ((i : Int))).1) ((nth (bk b (someF xs) i) ((i : Int))).2), max ((nth (bk b (someF xs) i) ((i : Int))).1) ((nth (bk b (someF xs) i) ((i : Int))).2) + 1)).set ((i : Int)).toNat (max ((nth (bk b (someF xs) i) ((i : Int))).1) ((nth (bk b (someF xs) i) ((i : Int))).2) + 1, min ((nth (bk b (someF xs) i) ((i : Int))).1) ((nth (bk b (someF xs) i) ((i : Int))).2))) (τ11 0) b4x5 w11 := f11.rown 6 rfl rfl e5
      clear f11
      show _
      show Code.wp _ _ _ a11 w11
      refine region_St (bf := [0, 1, 3]) (sp := [
          (det (Nw w) 29 (.int .i64 ((i : Int)))),
                (det (Nw w) 30 (.int .i64 ((i : Int) + 1))),
                (det (Nw w) 6 (.int .i64 ((i : Int) + 1)))])
        [(iown SpanE 33 (Nw w) b4x5 (((bk b (someF xs) i).set ((i : Int)).toNat (min ((nth (bk b (someF xs) i) ((i : Int))).1) ((nth (bk b (someF xs) i) ((i : Int))).2), max ((nth (bk b (someF xs) i) ((i : Int))).1) ((nth (bk b (someF xs) i) ((i : Int))).2) + 1)).set ((i : Int)).toNat (max ((nth (bk b (someF xs) i) ((i : Int))).1) ((nth (bk b (someF xs) i) ((i : Int))).2) + 1, min ((nth (bk b (someF xs) i) ((i : Int))).1) ((nth (bk b (someF xs) i) ((i : Int))).2))))] mixed st11 (by kernel_rfl) ⟨r0, trivial⟩
        ⟨Ob.det rfl rfl rfl (fun _ a_ _ _ c => r_move rfl (c.eo e6 (by kernel_rfl))),
               Ob.det rfl rfl rfl (fun _ a_ _ _ c => r_add rfl (c.ev 0 rfl rfl) rfl (by first | omega | (simp only [List.length_cons, List.length_nil]; omega) | (simp only [List.length_set]; omega))),
               Ob.det rfl rfl rfl (fun _ a_ _ _ c => r_assign rfl (c.ev 1 rfl rfl)),
         trivial⟩ ?_
      intro a12 w12 τ12 st12 f12
      replace e1 := f12.old e1 (by kernel_rfl)
      replace e4 := f12.old e4 (by kernel_rfl)
      replace e5 := f12.old e5 (by kernel_rfl)
      have e6 : get a12 6 = (.int .i64 ((i : Int) + 1)) := f12.v 2 rfl
      replace e7 := f12.old e7 (by kernel_rfl)
      replace e8 := f12.old e8 (by kernel_rfl)
      replace e28 := f12.old e28 (by kernel_rfl)
      replace e60 := f12.old e60 (by kernel_rfl)
      replace r0 : ownR SpanE 33 (((bk b (someF xs) i).set ((i : Int)).toNat (min ((nth (bk b (someF xs) i) ((i : Int))).1) ((nth (bk b (someF xs) i) ((i : Int))).2), max ((nth (bk b (someF xs) i) ((i : Int))).1) ((nth (bk b (someF xs) i) ((i : Int))).2) + 1)).set ((i : Int)).toNat (max ((nth (bk b (someF xs) i) ((i : Int))).1) ((nth (bk b (someF xs) i) ((i : Int))).2) + 1, min ((nth (bk b (someF xs) i) ((i : Int))).1) ((nth (bk b (someF xs) i) ((i : Int))).2))) (τ12 0) b4x5 w12 := f12.iown 0 rfl rfl
      clear f12
      refine ⟨⟨i + 1, τ12, ?_, st12, (e6.trans (int_eq (by omega))), e1, e4, e5, ?_⟩, ?_⟩
      · omega
      · exact r0.cast (by first | exact bk_on (by omega) (by assumption) | exact bk_back (by omega) (by assumption))
      · simp only [m6, e6, intOf]; omega
    try simp only [Bool.and_eq_true, Bool.or_eq_true, decide_eq_true_eq, decide_eq_false_iff_not, Bool.not_eq_true', Bool.and_eq_false_iff, Bool.or_eq_false_iff, Bool.not_eq_false', Int.not_lt, Int.not_le, beq_iff_eq, selB] at hc3
    refine wp_skip ?_
    show _
    show Code.wp _ _ _ a10 w10
    refine region_St (bf := [0, 1, 3]) (sp := [
        (det (Nw w) 29 (.int .i64 ((i : Int)))),
            (det (Nw w) 30 (.int .i64 ((i : Int) + 1))),
            (det (Nw w) 6 (.int .i64 ((i : Int) + 1)))])
      [(iown SpanE 33 (Nw w) b4x5 ((bk b (someF xs) i).set ((i : Int)).toNat (min ((nth (bk b (someF xs) i) ((i : Int))).1) ((nth (bk b (someF xs) i) ((i : Int))).2), max ((nth (bk b (someF xs) i) ((i : Int))).1) ((nth (bk b (someF xs) i) ((i : Int))).2) + 1)))] mixed st10 (by kernel_rfl) ⟨r0, trivial⟩
      ⟨Ob.det rfl rfl rfl (fun _ a_ _ _ c => r_move rfl (c.eo e6 (by kernel_rfl))),
           Ob.det rfl rfl rfl (fun _ a_ _ _ c => r_add rfl (c.ev 0 rfl rfl) rfl (by first | omega | (simp only [List.length_cons, List.length_nil]; omega) | (simp only [List.length_set]; omega))),
           Ob.det rfl rfl rfl (fun _ a_ _ _ c => r_assign rfl (c.ev 1 rfl rfl)),
       trivial⟩ ?_
    intro a13 w13 τ13 st13 f13
    replace e1 := f13.old e1 (by kernel_rfl)
    replace e4 := f13.old e4 (by kernel_rfl)
    replace e5 := f13.old e5 (by kernel_rfl)
    have e6 : get a13 6 = (.int .i64 ((i : Int) + 1)) := f13.v 2 rfl
    replace e7 := f13.old e7 (by kernel_rfl)
    replace e8 := f13.old e8 (by kernel_rfl)
    replace e28 := f13.old e28 (by kernel_rfl)
    replace e60 := f13.old e60 (by kernel_rfl)
    replace r0 : ownR SpanE 33 ((bk b (someF xs) i).set ((i : Int)).toNat (min ((nth (bk b (someF xs) i) ((i : Int))).1) ((nth (bk b (someF xs) i) ((i : Int))).2), max ((nth (bk b (someF xs) i) ((i : Int))).1) ((nth (bk b (someF xs) i) ((i : Int))).2) + 1)) (τ13 0) b4x5 w13 := f13.iown 0 rfl rfl
    clear f13
    refine ⟨⟨i + 1, τ13, ?_, st13, (e6.trans (int_eq (by omega))), e1, e4, e5, ?_⟩, ?_⟩
    · omega
    · exact r0.cast (by first | exact bk_on (by omega) (by assumption) | exact bk_back (by omega) (by assumption))
    · simp only [m6, e6, intOf]; omega
  try simp only [Bool.and_eq_true, Bool.or_eq_true, decide_eq_true_eq, decide_eq_false_iff_not, Bool.not_eq_true', Bool.and_eq_false_iff, Bool.or_eq_false_iff, Bool.not_eq_false', Int.not_lt, Int.not_le, beq_iff_eq, selB] at hc2
  refine wp_exit ?_
  repeat (with_reducible refine then_exit ?_)
  refine exit_here ?_
  show Code.wp _ _ _ a7 w7
  refine wp_seq ?_
  refine region_St (bf := [0, 1, 3, 7, 7, 15, 63]) (sp := [
      (det (Nw w) 68 b4x5),
        (tup SpanE 33 (Nw w) 1 69 (normF 61 (bk b (someF xs) i)) (.int .i64 (normE 61 (bk b (someF xs) i)))),
        (tup SpanE 33 (Nw w) 1 67 (normF 61 (bk b (someF xs) i)) (.int .i64 (normE 61 (bk b (someF xs) i)))),
        (own SpanE 33 (Nw w) 1 70 (normF 61 (bk b (someF xs) i))),
        (det (Nw w) 71 (.int .i64 (normE 61 (bk b (someF xs) i)))),
        (own SpanE 33 (Nw w) 1 9 (normF 61 (bk b (someF xs) i))),
        (det (Nw w) 10 (.int .i64 (normE 61 (bk b (someF xs) i))))])
    [(iown SpanE 33 (Nw w) b4x5 (bk b (someF xs) i))] mixed st7 (by kernel_rfl) ⟨r0, trivial⟩
    ⟨Ob.det rfl rfl rfl (fun _ a_ _ _ c => r_move rfl (c.eo e5 (by kernel_rfl))),
       Ob.callTup rfl rfl rfl (fun _ a_ _ _ c => ⟨_, _, (e_call2 rfl rfl Try.call10 rfl (c.ev 0 rfl rfl)), norm_c 61 b4x5 (bk b (someF xs) i) _ (c.iown 0 rfl rfl (by kernel_rfl)).1.sl⟩),
       Ob.moveT (t0 := 69) rfl rfl rfl rfl rfl (.inl rfl) (fun _ _ _ _ c => ⟨c.rtup 1 rfl rfl (by kernel_rfl), rfl⟩),
       Ob.part0 (t0 := 67) (k := (.int .i64 (normE 61 (bk b (someF xs) i)))) rfl rfl rfl rfl (fun _ _ _ _ c => c.rtup 2 rfl rfl (by kernel_rfl)),
       Ob.det rfl rfl rfl (fun _ a_ _ _ c => c.part1 2 rfl rfl rfl),
       Ob.moveT (t0 := 70) rfl rfl rfl rfl rfl (.inr rfl) (fun _ _ _ _ c => ⟨c.rown 3 rfl rfl (by kernel_rfl), rfl⟩),
       Ob.det rfl rfl rfl (fun _ a_ _ _ c => r_assign rfl (c.ev 4 rfl rfl)),
     trivial⟩ ?_
  intro a14 w14 τ14 st14 f14
  obtain ⟨b14x9, e9⟩ : ∃ b, get a14 9 = b := ⟨_, rfl⟩
  replace e1 := f14.old e1 (by kernel_rfl)
  replace e4 := f14.old e4 (by kernel_rfl)
  replace e5 := f14.old e5 (by kernel_rfl)
  have e10 : get a14 10 = (.int .i64 (normE 61 (bk b (someF xs) i))) := f14.v 6 rfl
  replace r0 : ownR SpanE 33 (bk b (someF xs) i) (τ14 0) b4x5 w14 := f14.iown 0 rfl rfl
  have r1 : ownR SpanE 33 (normF 61 (bk b (someF xs) i)) (τ14 1) b14x9 w14 := f14.rown 5 rfl rfl e9
  clear f14
  have hbk : ((someF xs).map (wayF b)) = bk b (someF xs) i := bk_all (by omega)
  replace r0 := r0.cast (show (someF xs).map (wayF b) = bk b (someF xs) i from by exact hbk)
  replace e10 := e10.trans (congrArg (Value.int .i64) (show normE 61 (bk b (someF xs) i) = (0 : Int) from (by rw [← hbk]; exact norm_way (by omega) (by omega))))
  replace r1 := r1.cast (show ordF ((someF xs).map (wayF b)) = normF 61 (bk b (someF xs) i) from by rw [← hbk]; exact (normF_zero (norm_way (by omega) (by omega))).symm)
  have hwl := @List.length_map _ _ (someF xs) (wayF b)
  have hol := ordF_le ((someF xs).map (wayF b))
  have hop := ordF_len_pos (xs := (someF xs).map (wayF b)) (by omega)
  have hway := way_at b xs
  show Code.wp _ _ _ a14 w14
  refine wp_seq ?_
  refine wp_seq ?_
  refine region_St (bf := [0]) (sp := [
      (det (Nw w) 11 (.int .i64 (0)))])
    [(iown SpanE 33 (Nw w) b4x5 ((someF xs).map (wayF b))), (iown SpanE 33 (Nw w) b14x9 (ordF ((someF xs).map (wayF b))))] mixed st14 (by kernel_rfl) ⟨r0, r1, trivial⟩
    ⟨Ob.det rfl rfl rfl (fun _ a_ _ _ c => r_assign rfl rfl),
     trivial⟩ ?_
  intro a15 w15 τ15 st15 f15
  replace e1 := f15.old e1 (by kernel_rfl)
  replace e4 := f15.old e4 (by kernel_rfl)
  replace e5 := f15.old e5 (by kernel_rfl)
  replace e9 := f15.old e9 (by kernel_rfl)
  replace e10 := f15.old e10 (by kernel_rfl)
  have e11 : get a15 11 = (.int .i64 (0)) := f15.v 0 rfl
  replace r0 : ownR SpanE 33 ((someF xs).map (wayF b)) (τ15 0) b4x5 w15 := f15.iown 0 rfl rfl
  replace r1 : ownR SpanE 33 (ordF ((someF xs).map (wayF b))) (τ15 1) b14x9 w15 := f15.iown 1 rfl rfl
  clear f15
  show Code.wp _ _ _ a15 w15
  refine wp_block ?_
  refine wp_loop (fun a_ w_ => ∃ (j : Nat) (τ : Nat → Foot), (j ≤ (ordF ((someF xs).map (wayF b))).length) ∧
        St (Nw w) w 149 a_ w_ τ ∧
        get a_ 11 = (.int .i64 ((j : Int))) ∧
        get a_ 1 = (.bool (b)) ∧
        get a_ 5 = b4x5 ∧
        get a_ 9 = b14x9 ∧
        get a_ 10 = (.int .i64 (0)) ∧
        ownR SpanE 33 ((someF xs).map (wayF b)) (τ 0) b4x5 w_ ∧
        ownR SpanE 33 (ordF ((someF xs).map (wayF b))) (τ 1) b14x9 w_) (fun a_ _ => (ordF ((someF xs).map (wayF b))).length - (intOf (get a_ 11)).toNat) ?_ ?_
  · refine ⟨0, τ15, ?_, st15, (e11.trans (int_eq (by omega))), e1, e5, e9, e10, r0, r1⟩
    · omega
  intro a16 w16 hI
  obtain ⟨j, τ16, q0, st16, e11, e1, e5, e9, e10, r0, r1⟩ := hI
  have m11 := e11
  refine wp_seq ?_
  refine wp_seq ?_
  refine region_St (bf := [0, 0, 2, 7]) (sp := [
      (det (Nw w) 72 (.int .i64 ((j : Int)))),
        (det (Nw w) 73 b14x9),
        (det (Nw w) 74 (.int .i64 (((ordF ((someF xs).map (wayF b))).length : Int)))),
        (det (Nw w) 75 (.bool (decide ((j : Int) < ((ordF ((someF xs).map (wayF b))).length : Int)))))])
    [(iown SpanE 33 (Nw w) b4x5 ((someF xs).map (wayF b))), (iown SpanE 33 (Nw w) b14x9 (ordF ((someF xs).map (wayF b))))] mixed st16 (by kernel_rfl) ⟨r0, r1, trivial⟩
    ⟨Ob.det rfl rfl rfl (fun _ a_ _ _ c => r_move rfl (c.eo e11 (by kernel_rfl))),
       Ob.det rfl rfl rfl (fun _ a_ _ _ c => r_move rfl (c.eo e9 (by kernel_rfl))),
       Ob.det rfl rfl rfl (fun _ a_ _ _ c => r_len rfl Try.underlying22 (c.ev 1 rfl rfl) r1.isSl),
       Ob.det rfl rfl rfl (fun _ a_ _ _ c => r_lss rfl (c.ev 0 rfl rfl) (c.ev 2 rfl rfl)),
     trivial⟩ ?_
  intro a17 w17 τ17 st17 f17
  replace e1 := f17.old e1 (by kernel_rfl)
  replace e5 := f17.old e5 (by kernel_rfl)
  replace e9 := f17.old e9 (by kernel_rfl)
  replace e10 := f17.old e10 (by kernel_rfl)
  replace e11 := f17.old e11 (by kernel_rfl)
  have e75 : get a17 75 = (.bool (decide ((j : Int) < ((ordF ((someF xs).map (wayF b))).length : Int)))) := f17.v 3 rfl
  replace r0 : ownR SpanE 33 ((someF xs).map (wayF b)) (τ17 0) b4x5 w17 := f17.iown 0 rfl rfl
  replace r1 : ownR SpanE 33 (ordF ((someF xs).map (wayF b))) (τ17 1) b14x9 w17 := f17.iown 1 rfl rfl
  clear f17
  show Code.wp _ _ _ a17 w17
  refine wp_cond_split (t := decide ((j : Int) < ((ordF ((someF xs).map (wayF b))).length : Int))) e75 (fun hc4 => ?_) (fun hc4 => ?_)
  · try simp only [Bool.and_eq_true, Bool.or_eq_true, decide_eq_true_eq, decide_eq_false_iff_not, Bool.not_eq_true', Bool.and_eq_false_iff, Bool.or_eq_false_iff, Bool.not_eq_false', Int.not_lt, Int.not_le, beq_iff_eq, selB] at hc4
    refine wp_skip ?_
    show Code.wp _ _ _ a17 w17
    refine wp_seq ?_
    refine wp_block ?_
    refine wp_seq ?_
    refine region_St (bf := [0, 0, 3, 7, 15, 0, 0, 96, 224, 480, 1023, 0, 4095]) (sp := [
        (det (Nw w) 78 b14x9),
            (det (Nw w) 79 (.int .i64 ((j : Int)))),
            (det (Nw w) 80 (.pointer (some ((ptrOf b14x9).add (((j : Int) : Int).toNat * 2))))),
            (det (Nw w) 81 (.pointer (some (((ptrOf b14x9).add (((j : Int) : Int).toNat * 2)).add 1)))),
            (det (Nw w) 82 (.int .i64 ((nth (ordF ((someF xs).map (wayF b))) ((j : Int))).2))),
            (det (Nw w) 83 b14x9),
            (det (Nw w) 84 (.int .i64 ((j : Int)))),
            (det (Nw w) 85 (.pointer (some ((ptrOf b14x9).add (((j : Int) : Int).toNat * 2))))),
            (det (Nw w) 86 (.pointer (some (((ptrOf b14x9).add (((j : Int) : Int).toNat * 2)).add 0)))),
            (det (Nw w) 87 (.int .i64 ((nth (ordF ((someF xs).map (wayF b))) ((j : Int))).1))),
            (det (Nw w) 88 (.bool (decide ((nth (ordF ((someF xs).map (wayF b))) ((j : Int))).2 < (nth (ordF ((someF xs).map (wayF b))) ((j : Int))).1)))),
            (det (Nw w) 89 (.bool (b))),
            (det (Nw w) 90 (.bool (false)))])
      [(iown SpanE 33 (Nw w) b4x5 ((someF xs).map (wayF b))), (iown SpanE 33 (Nw w) b14x9 (ordF ((someF xs).map (wayF b))))] mixed st17 (by kernel_rfl) ⟨r0, r1, trivial⟩
      ⟨Ob.det rfl rfl rfl (fun _ a_ _ _ c => r_move rfl (c.eo e9 (by kernel_rfl))),
           Ob.det rfl rfl rfl (fun _ a_ _ _ c => r_move rfl (c.eo e11 (by kernel_rfl))),
           Ob.det rfl rfl rfl (fun _ a_ _ _ c => r_indexAddr rfl Try.underlying22 Try.sizeOf33 (c.ev 0 rfl rfl) r1.isSl (c.ev 1 rfl rfl) (by first | omega | (simp only [List.length_cons, List.length_nil]; omega) | (simp only [List.length_set]; omega)) (by first | omega | (simp only [List.length_cons, List.length_nil]; omega) | (simp only [List.length_set]; omega))),
           Ob.det rfl rfl rfl (fun _ a_ _ _ c => r_fieldAddr rfl Try.underlying33 rfl rfl Try.sizeOf3 (c.ev 2 rfl rfl)),
           Ob.det rfl rfl rfl (fun _ a_ _ _ c => r_load1 rfl Try.isAgg3 (c.ev 3 rfl rfl) (((c.iown 1 rfl rfl (by kernel_rfl)).1.sl).elem (j := 1) (nth_some (by first | omega | (simp only [List.length_cons, List.length_nil]; omega) | (simp only [List.length_set]; omega)) (by first | omega | (simp only [List.length_cons, List.length_nil]; omega) | (simp only [List.length_set]; omega))) rfl)),
           Ob.det rfl rfl rfl (fun _ a_ _ _ c => r_move rfl (c.eo e9 (by kernel_rfl))),
           Ob.det rfl rfl rfl (fun _ a_ _ _ c => r_move rfl (c.eo e11 (by kernel_rfl))),
           Ob.det rfl rfl rfl (fun _ a_ _ _ c => r_indexAddr rfl Try.underlying22 Try.sizeOf33 (c.ev 5 rfl rfl) r1.isSl (c.ev 6 rfl rfl) (by first | omega | (simp only [List.length_cons, List.length_nil]; omega) | (simp only [List.length_set]; omega)) (by first | omega | (simp only [List.length_cons, List.length_nil]; omega) | (simp only [List.length_set]; omega))),
           Ob.det rfl rfl rfl (fun _ a_ _ _ c => r_fieldAddr rfl Try.underlying33 rfl rfl Try.sizeOf3 (c.ev 7 rfl rfl)),
           Ob.det rfl rfl rfl (fun _ a_ _ _ c => r_load1 rfl Try.isAgg3 (c.ev 8 rfl rfl) (((c.iown 1 rfl rfl (by kernel_rfl)).1.sl).elem (j := 0) (nth_some (by first | omega | (simp only [List.length_cons, List.length_nil]; omega) | (simp only [List.length_set]; omega)) (by first | omega | (simp only [List.length_cons, List.length_nil]; omega) | (simp only [List.length_set]; omega))) rfl)),
           Ob.det rfl rfl rfl (fun _ a_ _ _ c => r_lss rfl (c.ev 4 rfl rfl) (c.ev 9 rfl rfl)),
           Ob.det rfl rfl rfl (fun _ a_ _ _ c => r_move rfl (c.eo e1 (by kernel_rfl))),
           Ob.det rfl rfl rfl (fun _ a_ _ _ c => Runs.isB (b := !((decide ((nth (ordF ((someF xs).map (wayF b))) ((j : Int))).2 < (nth (ordF ((someF xs).map (wayF b))) ((j : Int))).1)) == b)) (r_bneq rfl Try.underlying4 (c.ev 10 rfl rfl) (c.ev 11 rfl rfl)) (by rw [hway j (by omega)]; simp)),
       trivial⟩ ?_
    intro a18 w18 τ18 st18 f18
    replace e1 := f18.old e1 (by kernel_rfl)
    replace e5 := f18.old e5 (by kernel_rfl)
    replace e9 := f18.old e9 (by kernel_rfl)
    replace e10 := f18.old e10 (by kernel_rfl)
    replace e11 := f18.old e11 (by kernel_rfl)
    replace e75 := f18.old e75 (by kernel_rfl)
    have e90 : get a18 90 = (.bool (false)) := f18.v 12 rfl
    replace r0 : ownR SpanE 33 ((someF xs).map (wayF b)) (τ18 0) b4x5 w18 := f18.iown 0 rfl rfl
    replace r1 : ownR SpanE 33 (ordF ((someF xs).map (wayF b))) (τ18 1) b14x9 w18 := f18.iown 1 rfl rfl
    clear f18
    show Code.wp _ _ _ a18 w18
    refine wp_cond_false e90 ?_
    refine wp_skip ?_
    show _
    show Code.wp _ _ _ a18 w18
    refine region_St (bf := [0, 1, 3]) (sp := [
        (det (Nw w) 76 (.int .i64 ((j : Int)))),
            (det (Nw w) 77 (.int .i64 ((j : Int) + 1))),
            (det (Nw w) 11 (.int .i64 ((j : Int) + 1)))])
      [(iown SpanE 33 (Nw w) b4x5 ((someF xs).map (wayF b))), (iown SpanE 33 (Nw w) b14x9 (ordF ((someF xs).map (wayF b))))] mixed st18 (by kernel_rfl) ⟨r0, r1, trivial⟩
      ⟨Ob.det rfl rfl rfl (fun _ a_ _ _ c => r_move rfl (c.eo e11 (by kernel_rfl))),
           Ob.det rfl rfl rfl (fun _ a_ _ _ c => r_add rfl (c.ev 0 rfl rfl) rfl (by first | omega | (simp only [List.length_cons, List.length_nil]; omega) | (simp only [List.length_set]; omega))),
           Ob.det rfl rfl rfl (fun _ a_ _ _ c => r_assign rfl (c.ev 1 rfl rfl)),
       trivial⟩ ?_
    intro a19 w19 τ19 st19 f19
    replace e1 := f19.old e1 (by kernel_rfl)
    replace e5 := f19.old e5 (by kernel_rfl)
    replace e9 := f19.old e9 (by kernel_rfl)
    replace e10 := f19.old e10 (by kernel_rfl)
    have e11 : get a19 11 = (.int .i64 ((j : Int) + 1)) := f19.v 2 rfl
    replace e75 := f19.old e75 (by kernel_rfl)
    replace e90 := f19.old e90 (by kernel_rfl)
    replace r0 : ownR SpanE 33 ((someF xs).map (wayF b)) (τ19 0) b4x5 w19 := f19.iown 0 rfl rfl
    replace r1 : ownR SpanE 33 (ordF ((someF xs).map (wayF b))) (τ19 1) b14x9 w19 := f19.iown 1 rfl rfl
    clear f19
    refine ⟨⟨j + 1, τ19, ?_, st19, (e11.trans (int_eq (by omega))), e1, e5, e9, e10, r0, r1⟩, ?_⟩
    · omega
    · simp only [m11, e11, intOf]; omega
  try simp only [Bool.and_eq_true, Bool.or_eq_true, decide_eq_true_eq, decide_eq_false_iff_not, Bool.not_eq_true', Bool.and_eq_false_iff, Bool.or_eq_false_iff, Bool.not_eq_false', Int.not_lt, Int.not_le, beq_iff_eq, selB] at hc4
  refine wp_exit ?_
  repeat (with_reducible refine then_exit ?_)
  refine exit_here ?_
  show Code.wp _ _ _ a17 w17
  refine wp_seq ?_
  refine region_St (bf := [0, 1, 3, 7, 15, 0, 32, 96, 224, 480, 1023, 2047, 4095, 8191, 16383, 16383, 32767, 131071]) (sp := [
      (det (Nw w) 92 b4x5),
        (det (Nw w) 93 (.pointer (some ((ptrOf b4x5).add ((0 : Int).toNat * 2))))),
        (det (Nw w) 94 (.pointer (some (((ptrOf b4x5).add ((0 : Int).toNat * 2)).add 0)))),
        (det (Nw w) 95 (.int .i64 ((nth ((someF xs).map (wayF b)) (0)).1))),
        (det (Nw w) 96 (.int .i64 (((nth ((someF xs).map (wayF b)) (0)).1).tmod 60))),
        (det (Nw w) 97 b4x5),
        (det (Nw w) 98 (.pointer (some ((ptrOf b4x5).add ((0 : Int).toNat * 2))))),
        (det (Nw w) 99 (.pointer (some (((ptrOf b4x5).add ((0 : Int).toNat * 2)).add 0)))),
        (det (Nw w) 100 (.int .i64 ((nth ((someF xs).map (wayF b)) (0)).1))),
        (det (Nw w) 101 (.int .i64 (((nth ((someF xs).map (wayF b)) (0)).1).tmod 60))),
        (det (Nw w) 102 (.agg #[(.int .i64 (((nth ((someF xs).map (wayF b)) (0)).1).tmod 60)), (.int .i64 (((nth ((someF xs).map (wayF b)) (0)).1).tmod 60))])),
        (own SpanE 33 (Nw w) 2 103 ([(((nth ((someF xs).map (wayF b)) (0)).1).tmod 60, ((nth ((someF xs).map (wayF b)) (0)).1).tmod 60)])),
        (tup SpanE 33 (Nw w) 3 104 (normF 60 ([(((nth ((someF xs).map (wayF b)) (0)).1).tmod 60, ((nth ((someF xs).map (wayF b)) (0)).1).tmod 60)])) (.int .i64 (normE 60 ([(((nth ((someF xs).map (wayF b)) (0)).1).tmod 60, ((nth ((someF xs).map (wayF b)) (0)).1).tmod 60)])))),
        (tup SpanE 33 (Nw w) 3 91 (normF 60 ([(((nth ((someF xs).map (wayF b)) (0)).1).tmod 60, ((nth ((someF xs).map (wayF b)) (0)).1).tmod 60)])) (.int .i64 (normE 60 ([(((nth ((someF xs).map (wayF b)) (0)).1).tmod 60, ((nth ((someF xs).map (wayF b)) (0)).1).tmod 60)])))),
        (own SpanE 33 (Nw w) 3 105 (normF 60 ([(((nth ((someF xs).map (wayF b)) (0)).1).tmod 60, ((nth ((someF xs).map (wayF b)) (0)).1).tmod 60)]))),
        (det (Nw w) 106 (.int .i64 (normE 60 ([(((nth ((someF xs).map (wayF b)) (0)).1).tmod 60, ((nth ((someF xs).map (wayF b)) (0)).1).tmod 60)])))),
        (own SpanE 33 (Nw w) 3 12 (normF 60 ([(((nth ((someF xs).map (wayF b)) (0)).1).tmod 60, ((nth ((someF xs).map (wayF b)) (0)).1).tmod 60)]))),
        (det (Nw w) 13 (.int .i64 (normE 60 ([(((nth ((someF xs).map (wayF b)) (0)).1).tmod 60, ((nth ((someF xs).map (wayF b)) (0)).1).tmod 60)]))))])
    [(iown SpanE 33 (Nw w) b4x5 ((someF xs).map (wayF b))), (iown SpanE 33 (Nw w) b14x9 (ordF ((someF xs).map (wayF b))))] mixed st17 (by kernel_rfl) ⟨r0, r1, trivial⟩
    ⟨Ob.det rfl rfl rfl (fun _ a_ _ _ c => r_move rfl (c.eo e5 (by kernel_rfl))),
       Ob.det rfl rfl rfl (fun _ a_ _ _ c => r_indexAddr rfl Try.underlying22 Try.sizeOf33 (c.ev 0 rfl rfl) r0.isSl rfl (by first | omega | (simp only [List.length_cons, List.length_nil]; omega) | (simp only [List.length_set]; omega)) (by first | omega | (simp only [List.length_cons, List.length_nil]; omega) | (simp only [List.length_set]; omega))),
       Ob.det rfl rfl rfl (fun _ a_ _ _ c => r_fieldAddr rfl Try.underlying33 rfl rfl Try.sizeOf3 (c.ev 1 rfl rfl)),
       Ob.det rfl rfl rfl (fun _ a_ _ _ c => r_load1 rfl Try.isAgg3 (c.ev 2 rfl rfl) (((c.iown 0 rfl rfl (by kernel_rfl)).1.sl).elem (j := 0) (nth_some (by first | omega | (simp only [List.length_cons, List.length_nil]; omega) | (simp only [List.length_set]; omega)) (by first | omega | (simp only [List.length_cons, List.length_nil]; omega) | (simp only [List.length_set]; omega))) rfl)),
       Ob.det rfl rfl rfl (fun _ a_ _ _ c => r_rem rfl (c.ev 3 rfl rfl) rfl (by first | omega | (simp only [List.length_cons, List.length_nil]; omega) | (simp only [List.length_set]; omega))),
       Ob.det rfl rfl rfl (fun _ a_ _ _ c => r_move rfl (c.eo e5 (by kernel_rfl))),
       Ob.det rfl rfl rfl (fun _ a_ _ _ c => r_indexAddr rfl Try.underlying22 Try.sizeOf33 (c.ev 5 rfl rfl) r0.isSl rfl (by first | omega | (simp only [List.length_cons, List.length_nil]; omega) | (simp only [List.length_set]; omega)) (by first | omega | (simp only [List.length_cons, List.length_nil]; omega) | (simp only [List.length_set]; omega))),
       Ob.det rfl rfl rfl (fun _ a_ _ _ c => r_fieldAddr rfl Try.underlying33 rfl rfl Try.sizeOf3 (c.ev 6 rfl rfl)),
       Ob.det rfl rfl rfl (fun _ a_ _ _ c => r_load1 rfl Try.isAgg3 (c.ev 7 rfl rfl) (((c.iown 0 rfl rfl (by kernel_rfl)).1.sl).elem (j := 0) (nth_some (by first | omega | (simp only [List.length_cons, List.length_nil]; omega) | (simp only [List.length_set]; omega)) (by first | omega | (simp only [List.length_cons, List.length_nil]; omega) | (simp only [List.length_set]; omega))) rfl)),
       Ob.det rfl rfl rfl (fun _ a_ _ _ c => r_rem rfl (c.ev 8 rfl rfl) rfl (by first | omega | (simp only [List.length_cons, List.length_nil]; omega) | (simp only [List.length_set]; omega))),
       Ob.det rfl rfl rfl (fun _ a_ _ _ c => r_build (cells := #[(.int .i64 (((nth ((someF xs).map (wayF b)) (0)).1).tmod 60)), (.int .i64 (((nth ((someF xs).map (wayF b)) (0)).1).tmod 60))]) rfl Try.underlying33 Try.zeroValue33 (pl := #[(0, 1), (1, 1)]) (fun w_ => by simp [Try.sizeOf3]) (by simp only [List.map_toArray, List.map_cons, List.map_nil, (show a_.eval (.tmp 96) = (.int .i64 (((nth ((someF xs).map (wayF b)) (0)).1).tmod 60)) from (c.ev 4 rfl rfl)), (show a_.eval (.tmp 101) = (.int .i64 (((nth ((someF xs).map (wayF b)) (0)).1).tmod 60)) from (c.ev 9 rfl rfl))]; rfl)),
       Ob.buildSlice (cells := #[(.int .i64 (((nth ((someF xs).map (wayF b)) (0)).1).tmod 60)), (.int .i64 (((nth ((someF xs).map (wayF b)) (0)).1).tmod 60))]) rfl rfl rfl rfl Try.underlying22 Try.sizeOf33 Try.zeroValue33 rfl (by decide) (by decide) (fun _ a_ _ _ c => by simp only [List.map_toArray, List.map_cons, List.map_nil, (show a_.eval (.tmp 102) = (.agg #[(.int .i64 (((nth ((someF xs).map (wayF b)) (0)).1).tmod 60)), (.int .i64 (((nth ((someF xs).map (wayF b)) (0)).1).tmod 60))]) from (c.ev 10 rfl rfl))]; kernel_rfl) rfl,
       Ob.callTup rfl rfl rfl (fun _ a_ _ _ c => ⟨_, _, (e_call2 rfl rfl Try.call10 rfl (eval_tmp _ 103)), norm_c 60 _ ([(((nth ((someF xs).map (wayF b)) (0)).1).tmod 60, ((nth ((someF xs).map (wayF b)) (0)).1).tmod 60)]) _ (c.rown 11 rfl rfl (by kernel_rfl)).1.sl⟩),
       Ob.moveT (t0 := 104) rfl rfl rfl rfl rfl (.inl rfl) (fun _ _ _ _ c => ⟨c.rtup 12 rfl rfl (by kernel_rfl), rfl⟩),
       Ob.part0 (t0 := 91) (k := (.int .i64 (normE 60 ([(((nth ((someF xs).map (wayF b)) (0)).1).tmod 60, ((nth ((someF xs).map (wayF b)) (0)).1).tmod 60)])))) rfl rfl rfl rfl (fun _ _ _ _ c => c.rtup 13 rfl rfl (by kernel_rfl)),
       Ob.det rfl rfl rfl (fun _ a_ _ _ c => c.part1 13 rfl rfl rfl),
       Ob.moveT (t0 := 105) rfl rfl rfl rfl rfl (.inr rfl) (fun _ _ _ _ c => ⟨c.rown 14 rfl rfl (by kernel_rfl), rfl⟩),
       Ob.det rfl rfl rfl (fun _ a_ _ _ c => r_assign rfl (c.ev 15 rfl rfl)),
     trivial⟩ ?_
  intro a20 w20 τ20 st20 f20
  obtain ⟨b20x103, e103⟩ : ∃ b, get a20 103 = b := ⟨_, rfl⟩
  obtain ⟨b20x12, e12⟩ : ∃ b, get a20 12 = b := ⟨_, rfl⟩
  replace e5 := f20.old e5 (by kernel_rfl)
  replace e9 := f20.old e9 (by kernel_rfl)
  replace e10 := f20.old e10 (by kernel_rfl)
  have e13 : get a20 13 = (.int .i64 (normE 60 ([(((nth ((someF xs).map (wayF b)) (0)).1).tmod 60, ((nth ((someF xs).map (wayF b)) (0)).1).tmod 60)]))) := f20.v 17 rfl
  replace r0 : ownR SpanE 33 ((someF xs).map (wayF b)) (τ20 0) b4x5 w20 := f20.iown 0 rfl rfl
  replace r1 : ownR SpanE 33 (ordF ((someF xs).map (wayF b))) (τ20 1) b14x9 w20 := f20.iown 1 rfl rfl
  have r3 : ownR SpanE 33 (normF 60 ([(((nth ((someF xs).map (wayF b)) (0)).1).tmod 60, ((nth ((someF xs).map (wayF b)) (0)).1).tmod 60)])) (τ20 3) b20x12 w20 := f20.rown 16 rfl rfl e12
  clear f20
  have hm := mod_range b xs (by omega)
  replace e13 := e13.trans (congrArg (Value.int .i64) (show normE 60 ([(((nth ((someF xs).map (wayF b)) (0)).1).tmod 60, ((nth ((someF xs).map (wayF b)) (0)).1).tmod 60)]) = (0 : Int) from norm_one hm.1 hm.2))
  replace r3 := r3.cast (show [((nth ((someF xs).map (wayF b)) (0 : Int)).1.tmod 60, (nth ((someF xs).map (wayF b)) (0 : Int)).1.tmod 60)] = normF 60 ([(((nth ((someF xs).map (wayF b)) (0)).1).tmod 60, ((nth ((someF xs).map (wayF b)) (0)).1).tmod 60)]) from by exact (normF_one hm.1 hm.2).symm)
  show Code.wp _ _ _ a20 w20
  refine wp_seq ?_
  refine region_St (bf := [0, 1, 3, 7, 15, 31, 63, 127, 255, 511, 1023, 2047, 4095, 8191, 16383, 32767, 65535, 131071, 262143, 524287, 1048575, 131071, 2228223, 6422527, 14811135, 31588351, 67108863, 134217727, 268435455, 536870911, 1073741823, 2147483647, 4294967295, 536870911, 9126805503, 26306674687, 60666413055, 137438953471, 274877906943, 549755813887, 1099511627775, 2199023255551, 4398046511103]) (sp := [
      (det (Nw w) 107 (.int .i64 (0))),
        (det (Nw w) 108 (.bool (true))),
        (det (Nw w) 109 (.bool (true))),
        (det (Nw w) 110 b14x9),
        (det (Nw w) 111 (.int .i64 (((ordF ((someF xs).map (wayF b))).length : Int)))),
        (det (Nw w) 112 (.bool (true))),
        (det (Nw w) 113 (.bool (true))),
        (det (Nw w) 114 (.bool (true))),
        (det (Nw w) 115 (.int .i64 (0))),
        (det (Nw w) 116 (.bool (true))),
        (det (Nw w) 117 (.bool (true))),
        (det (Nw w) 118 (.bool (true))),
        (det (Nw w) 119 b20x12),
        (det (Nw w) 120 (.int .i64 ((([((nth ((someF xs).map (wayF b)) (0 : Int)).1.tmod 60, (nth ((someF xs).map (wayF b)) (0 : Int)).1.tmod 60)]).length : Int)))),
        (det (Nw w) 121 (.bool (true))),
        (det (Nw w) 122 (.bool (true))),
        (det (Nw w) 123 (.bool (true))),
        (det (Nw w) 124 b20x12),
        (det (Nw w) 125 (.pointer (some ((ptrOf b20x12).add ((0 : Int).toNat * 2))))),
        (det (Nw w) 126 (.pointer (some (((ptrOf b20x12).add ((0 : Int).toNat * 2)).add 0)))),
        (det (Nw w) 127 (.int .i64 ((nth ([((nth ((someF xs).map (wayF b)) (0 : Int)).1.tmod 60, (nth ((someF xs).map (wayF b)) (0 : Int)).1.tmod 60)]) (0)).1))),
        (det (Nw w) 128 b4x5),
        (det (Nw w) 129 (.pointer (some ((ptrOf b4x5).add ((0 : Int).toNat * 2))))),
        (det (Nw w) 130 (.pointer (some (((ptrOf b4x5).add ((0 : Int).toNat * 2)).add 0)))),
        (det (Nw w) 131 (.int .i64 ((nth ((someF xs).map (wayF b)) (0)).1))),
        (det (Nw w) 132 (.int .i64 (((nth ((someF xs).map (wayF b)) (0)).1).tmod 60))),
        (det (Nw w) 133 (.bool (true))),
        (det (Nw w) 134 (.bool (true))),
        (det (Nw w) 135 (.bool (true))),
        (det (Nw w) 136 b20x12),
        (det (Nw w) 137 (.pointer (some ((ptrOf b20x12).add ((0 : Int).toNat * 2))))),
        (det (Nw w) 138 (.pointer (some (((ptrOf b20x12).add ((0 : Int).toNat * 2)).add 1)))),
        (det (Nw w) 139 (.int .i64 ((nth ([((nth ((someF xs).map (wayF b)) (0 : Int)).1.tmod 60, (nth ((someF xs).map (wayF b)) (0 : Int)).1.tmod 60)]) (0)).2))),
        (det (Nw w) 140 b20x12),
        (det (Nw w) 141 (.pointer (some ((ptrOf b20x12).add ((0 : Int).toNat * 2))))),
        (det (Nw w) 142 (.pointer (some (((ptrOf b20x12).add ((0 : Int).toNat * 2)).add 0)))),
        (det (Nw w) 143 (.int .i64 ((nth ([((nth ((someF xs).map (wayF b)) (0 : Int)).1.tmod 60, (nth ((someF xs).map (wayF b)) (0 : Int)).1.tmod 60)]) (0)).1))),
        (det (Nw w) 144 (.bool (true))),
        (det (Nw w) 145 (.bool (true))),
        (det (Nw w) 146 (.bool (true))),
        (det (Nw w) 147 (.bool (true))),
        (det (Nw w) 148 (.bool (true))),
        (det (Nw w) 4 (.bool (true)))])
    [(iown SpanE 33 (Nw w) b4x5 ((someF xs).map (wayF b))), (iown SpanE 33 (Nw w) b14x9 (ordF ((someF xs).map (wayF b)))), (Ini.any (Nw w)), (iown SpanE 33 (Nw w) b20x12 ([((nth ((someF xs).map (wayF b)) (0 : Int)).1.tmod 60, (nth ((someF xs).map (wayF b)) (0 : Int)).1.tmod 60)]))] mixed st20 (by kernel_rfl) ⟨r0, r1, trivial, r3, trivial⟩
    ⟨Ob.det rfl rfl rfl (fun _ a_ _ _ c => r_move rfl (c.eo e10 (by kernel_rfl))),
       Ob.det rfl rfl rfl (fun _ a_ _ _ c => Runs.isB (b := decide (0 = 0)) (r_eql rfl (c.ev 0 rfl rfl) rfl) (by decide)),
       Ob.det rfl rfl rfl (fun _ a_ _ _ c => r_move rfl (c.ev 1 rfl rfl)),
       Ob.live (gi := 2) (tg := 109) rfl rfl rfl rfl (Ob.det rfl rfl rfl (fun _ a_ _ _ c => r_move rfl (c.eo e9 (by kernel_rfl)))),
       Ob.live (gi := 2) (tg := 109) rfl rfl rfl rfl (Ob.det rfl rfl rfl (fun _ a_ _ _ c => r_len rfl Try.underlying22 (c.ev 3 rfl rfl) r1.isSl)),
       Ob.live (gi := 2) (tg := 109) rfl rfl rfl rfl (Ob.det rfl rfl rfl (fun _ a_ _ _ c => Runs.isB (b := decide (0 < ((ordF ((someF xs).map (wayF b))).length : Int))) (r_gtr rfl (c.ev 4 rfl rfl) rfl) (by exact decide_eq_true (by omega)))),
       Ob.det rfl rfl rfl (fun _ a_ _ _ c => r_pick rfl (c.ev 2 rfl rfl) (fun _ => (c.ev 5 rfl rfl)) (fun h => by cases h)),
       Ob.det rfl rfl rfl (fun _ a_ _ _ c => r_move rfl (c.ev 6 rfl rfl)),
       Ob.live (gi := 7) (tg := 114) rfl rfl rfl rfl (Ob.det rfl rfl rfl (fun _ a_ _ _ c => r_move rfl (c.eo e13 (by kernel_rfl)))),
       Ob.live (gi := 7) (tg := 114) rfl rfl rfl rfl (Ob.det rfl rfl rfl (fun _ a_ _ _ c => Runs.isB (b := decide (0 = 0)) (r_eql rfl (c.ev 8 rfl rfl) rfl) (by decide))),
       Ob.det rfl rfl rfl (fun _ a_ _ _ c => r_pick rfl (c.ev 7 rfl rfl) (fun _ => (c.ev 9 rfl rfl)) (fun h => by cases h)),
       Ob.det rfl rfl rfl (fun _ a_ _ _ c => r_move rfl (c.ev 10 rfl rfl)),
       Ob.live (gi := 11) (tg := 118) rfl rfl rfl rfl (Ob.det rfl rfl rfl (fun _ a_ _ _ c => r_move rfl (c.eo e12 (by kernel_rfl)))),
       Ob.live (gi := 11) (tg := 118) rfl rfl rfl rfl (Ob.det rfl rfl rfl (fun _ a_ _ _ c => r_len rfl Try.underlying22 (c.ev 12 rfl rfl) r3.isSl)),
       Ob.live (gi := 11) (tg := 118) rfl rfl rfl rfl (Ob.det rfl rfl rfl (fun _ a_ _ _ c => Runs.isB (b := decide ((([((nth ((someF xs).map (wayF b)) (0 : Int)).1.tmod 60, (nth ((someF xs).map (wayF b)) (0 : Int)).1.tmod 60)]).length : Int) = 1)) (r_eql rfl (c.ev 13 rfl rfl) rfl) (by rfl))),
       Ob.det rfl rfl rfl (fun _ a_ _ _ c => r_pick rfl (c.ev 11 rfl rfl) (fun _ => (c.ev 14 rfl rfl)) (fun h => by cases h)),
       Ob.det rfl rfl rfl (fun _ a_ _ _ c => r_move rfl (c.ev 15 rfl rfl)),
       Ob.live (gi := 16) (tg := 123) rfl rfl rfl rfl (Ob.det rfl rfl rfl (fun _ a_ _ _ c => r_move rfl (c.eo e12 (by kernel_rfl)))),
       Ob.live (gi := 16) (tg := 123) rfl rfl rfl rfl (Ob.det rfl rfl rfl (fun _ a_ _ _ c => r_indexAddr rfl Try.underlying22 Try.sizeOf33 (c.ev 17 rfl rfl) r3.isSl rfl (by first | omega | (simp only [List.length_cons, List.length_nil]; omega) | (simp only [List.length_set]; omega)) (by first | omega | (simp only [List.length_cons, List.length_nil]; omega) | (simp only [List.length_set]; omega)))),
       Ob.live (gi := 16) (tg := 123) rfl rfl rfl rfl (Ob.det rfl rfl rfl (fun _ a_ _ _ c => r_fieldAddr rfl Try.underlying33 rfl rfl Try.sizeOf3 (c.ev 18 rfl rfl))),
       Ob.live (gi := 16) (tg := 123) rfl rfl rfl rfl (Ob.det rfl rfl rfl (fun _ a_ _ _ c => r_load1 rfl Try.isAgg3 (c.ev 19 rfl rfl) (((c.iown 3 rfl rfl (by kernel_rfl)).1.sl).elem (j := 0) (nth_some (by first | omega | (simp only [List.length_cons, List.length_nil]; omega) | (simp only [List.length_set]; omega)) (by first | omega | (simp only [List.length_cons, List.length_nil]; omega) | (simp only [List.length_set]; omega))) rfl))),
       Ob.live (gi := 16) (tg := 123) rfl rfl rfl rfl (Ob.det rfl rfl rfl (fun _ a_ _ _ c => r_move rfl (c.eo e5 (by kernel_rfl)))),
       Ob.live (gi := 16) (tg := 123) rfl rfl rfl rfl (Ob.det rfl rfl rfl (fun _ a_ _ _ c => r_indexAddr rfl Try.underlying22 Try.sizeOf33 (c.ev 21 rfl rfl) r0.isSl rfl (by first | omega | (simp only [List.length_cons, List.length_nil]; omega) | (simp only [List.length_set]; omega)) (by first | omega | (simp only [List.length_cons, List.length_nil]; omega) | (simp only [List.length_set]; omega)))),
       Ob.live (gi := 16) (tg := 123) rfl rfl rfl rfl (Ob.det rfl rfl rfl (fun _ a_ _ _ c => r_fieldAddr rfl Try.underlying33 rfl rfl Try.sizeOf3 (c.ev 22 rfl rfl))),
       Ob.live (gi := 16) (tg := 123) rfl rfl rfl rfl (Ob.det rfl rfl rfl (fun _ a_ _ _ c => r_load1 rfl Try.isAgg3 (c.ev 23 rfl rfl) (((c.iown 0 rfl rfl (by kernel_rfl)).1.sl).elem (j := 0) (nth_some (by first | omega | (simp only [List.length_cons, List.length_nil]; omega) | (simp only [List.length_set]; omega)) (by first | omega | (simp only [List.length_cons, List.length_nil]; omega) | (simp only [List.length_set]; omega))) rfl))),
       Ob.live (gi := 16) (tg := 123) rfl rfl rfl rfl (Ob.det rfl rfl rfl (fun _ a_ _ _ c => r_rem rfl (c.ev 24 rfl rfl) rfl (by first | omega | (simp only [List.length_cons, List.length_nil]; omega) | (simp only [List.length_set]; omega)))),
       Ob.live (gi := 16) (tg := 123) rfl rfl rfl rfl (Ob.det rfl rfl rfl (fun _ a_ _ _ c => Runs.isB (b := decide ((nth ([((nth ((someF xs).map (wayF b)) (0 : Int)).1.tmod 60, (nth ((someF xs).map (wayF b)) (0 : Int)).1.tmod 60)]) (0)).1 = ((nth ((someF xs).map (wayF b)) (0)).1).tmod 60)) (r_eql rfl (c.ev 20 rfl rfl) (c.ev 25 rfl rfl)) (by simp [nth]))),
       Ob.det rfl rfl rfl (fun _ a_ _ _ c => r_pick rfl (c.ev 16 rfl rfl) (fun _ => (c.ev 26 rfl rfl)) (fun h => by cases h)),
       Ob.det rfl rfl rfl (fun _ a_ _ _ c => r_move rfl (c.ev 27 rfl rfl)),
       Ob.live (gi := 28) (tg := 135) rfl rfl rfl rfl (Ob.det rfl rfl rfl (fun _ a_ _ _ c => r_move rfl (c.eo e12 (by kernel_rfl)))),
       Ob.live (gi := 28) (tg := 135) rfl rfl rfl rfl (Ob.det rfl rfl rfl (fun _ a_ _ _ c => r_indexAddr rfl Try.underlying22 Try.sizeOf33 (c.ev 29 rfl rfl) r3.isSl rfl (by first | omega | (simp only [List.length_cons, List.length_nil]; omega) | (simp only [List.length_set]; omega)) (by first | omega | (simp only [List.length_cons, List.length_nil]; omega) | (simp only [List.length_set]; omega)))),
       Ob.live (gi := 28) (tg := 135) rfl rfl rfl rfl (Ob.det rfl rfl rfl (fun _ a_ _ _ c => r_fieldAddr rfl Try.underlying33 rfl rfl Try.sizeOf3 (c.ev 30 rfl rfl))),
       Ob.live (gi := 28) (tg := 135) rfl rfl rfl rfl (Ob.det rfl rfl rfl (fun _ a_ _ _ c => r_load1 rfl Try.isAgg3 (c.ev 31 rfl rfl) (((c.iown 3 rfl rfl (by kernel_rfl)).1.sl).elem (j := 1) (nth_some (by first | omega | (simp only [List.length_cons, List.length_nil]; omega) | (simp only [List.length_set]; omega)) (by first | omega | (simp only [List.length_cons, List.length_nil]; omega) | (simp only [List.length_set]; omega))) rfl))),
       Ob.live (gi := 28) (tg := 135) rfl rfl rfl rfl (Ob.det rfl rfl rfl (fun _ a_ _ _ c => r_move rfl (c.eo e12 (by kernel_rfl)))),
       Ob.live (gi := 28) (tg := 135) rfl rfl rfl rfl (Ob.det rfl rfl rfl (fun _ a_ _ _ c => r_indexAddr rfl Try.underlying22 Try.sizeOf33 (c.ev 33 rfl rfl) r3.isSl rfl (by first | omega | (simp only [List.length_cons, List.length_nil]; omega) | (simp only [List.length_set]; omega)) (by first | omega | (simp only [List.length_cons, List.length_nil]; omega) | (simp only [List.length_set]; omega)))),
       Ob.live (gi := 28) (tg := 135) rfl rfl rfl rfl (Ob.det rfl rfl rfl (fun _ a_ _ _ c => r_fieldAddr rfl Try.underlying33 rfl rfl Try.sizeOf3 (c.ev 34 rfl rfl))),
       Ob.live (gi := 28) (tg := 135) rfl rfl rfl rfl (Ob.det rfl rfl rfl (fun _ a_ _ _ c => r_load1 rfl Try.isAgg3 (c.ev 35 rfl rfl) (((c.iown 3 rfl rfl (by kernel_rfl)).1.sl).elem (j := 0) (nth_some (by first | omega | (simp only [List.length_cons, List.length_nil]; omega) | (simp only [List.length_set]; omega)) (by first | omega | (simp only [List.length_cons, List.length_nil]; omega) | (simp only [List.length_set]; omega))) rfl))),
       Ob.live (gi := 28) (tg := 135) rfl rfl rfl rfl (Ob.det rfl rfl rfl (fun _ a_ _ _ c => Runs.isB (b := decide ((nth ([((nth ((someF xs).map (wayF b)) (0 : Int)).1.tmod 60, (nth ((someF xs).map (wayF b)) (0 : Int)).1.tmod 60)]) (0)).2 = (nth ([((nth ((someF xs).map (wayF b)) (0 : Int)).1.tmod 60, (nth ((someF xs).map (wayF b)) (0 : Int)).1.tmod 60)]) (0)).1)) (r_eql rfl (c.ev 32 rfl rfl) (c.ev 36 rfl rfl)) (by simp [nth]))),
       Ob.det rfl rfl rfl (fun _ a_ _ _ c => r_pick rfl (c.ev 28 rfl rfl) (fun _ => (c.ev 37 rfl rfl)) (fun h => by cases h)),
       Ob.det rfl rfl rfl (fun _ a_ _ _ c => r_move rfl (c.ev 38 rfl rfl)),
       Ob.live (gi := 39) (tg := 146) rfl rfl rfl rfl (Ob.call rfl rfl rfl (fun _ a_ _ _ c => ⟨_, _, (e_call0 rfl rfl Try.call9), awake_c _⟩)),
       Ob.det rfl rfl rfl (fun _ a_ _ _ c => r_pick rfl (c.ev 39 rfl rfl) (fun _ => (c.ev 40 rfl rfl)) (fun h => by cases h)),
       Ob.det rfl rfl rfl (fun _ a_ _ _ c => r_assign rfl (c.ev 41 rfl rfl)),
     trivial⟩ ?_
  intro a21 w21 τ21 st21 f21
  have e4 : get a21 4 = (.bool (true)) := f21.v 42 rfl
  clear f21
  show Code.wp _ _ _ a21 w21
  refine wp_ret ?_
  repeat (first | with_reducible refine then_ret ?_ | with_reducible refine block_ret ?_)
  refine ret1 (fn := Try.f4) rfl st21.defers e4 ?_
  exact ⟨rfl, st21.ext0⟩
end B
end Go.Proofs.Ytjapbdofhbfmfaa
