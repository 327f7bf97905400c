/-
  Walks, printed by a program (gen.py): SelLCover.
-/
import Derived.Test.YtjapbdofhbfmfaaSelQ
set_option linter.unusedSimpArgs false
set_option linter.unusedVariables false
namespace Go.Proofs.Ytjapbdofhbfmfaa
namespace B
open Go.RowKit
open Srt
set_option maxRecDepth 100000 in
theorem selsCover_c (v : Value) (xs : List (Int × Int)) (n : Int) (w : World) (hS : SlT SpanE w v xs) : Calls Try.prog 8 #[v, (.int .i64 (n))] w (fun e w' => e = .returned (.bool (true)) ∧ Ext none' w w') := by
  refine enter (n := 111) Try.func8 rfl rfl (Nat.le_of_ble_eq_true rfl) ?_
  intro a0 τ0 ha st0
  have e0 : get a0 0 = v := ha 0 _ rfl
  have e1 : get a0 1 = (.int .i64 (n)) := ha 1 _ rfl
  clear ha
  have hle := hS.le
  have hsl := someF_len xs
  refine wp_seq ?_
  refine region_St (bf := [0]) (sp := [
      (det (Nw w) 4 (.bool (false)))])
    [] mixed st0 (by kernel_rfl) trivial
    ⟨Ob.det rfl rfl rfl (fun _ a_ _ _ c => r_assign rfl rfl),
     trivial⟩ ?_
  intro a1 w1 τ1 st1 f1
  replace e0 := f1.old e0 (by kernel_rfl)
  replace e1 := f1.old e1 (by kernel_rfl)
  have e4 : get a1 4 = (.bool (false)) := f1.v 0 rfl
  clear f1
  show Code.wp _ _ _ a1 w1
  refine wp_seq ?_
  refine wp_seq ?_
  refine region_St (bf := [0, 1, 3, 7, 15, 31, 63, 127]) (sp := [
      (det (Nw w) 15 v),
        (det (Nw w) 16 (.int .i64 ((xs.length : Int)))),
        (det (Nw w) 17 (.bool (decide ((xs.length : Int) = 0)))),
        (det (Nw w) 18 (.bool (decide ((xs.length : Int) = 0)))),
        (gdet (Nw w) 19 ((decide ((xs.length : Int) = 0)) = false) v),
        (gdet (Nw w) 20 ((decide ((xs.length : Int) = 0)) = false) (.int .i64 ((xs.length : Int)))),
        (gdet (Nw w) 21 ((decide ((xs.length : Int) = 0)) = false) (.bool (decide (64 < (xs.length : Int))))),
        (det (Nw w) 22 (.bool ((decide ((xs.length : Int) = 0)) || (decide (64 < (xs.length : Int))))))])
    [] mixed st1 (by kernel_rfl) trivial
    ⟨Ob.det rfl rfl rfl (fun _ a_ _ _ c => r_move rfl (c.eo e0 (by kernel_rfl))),
       Ob.det rfl rfl rfl (fun _ a_ _ _ c => r_len rfl Try.underlying23 (c.ev 0 rfl rfl) hS.sl),
       Ob.det rfl rfl rfl (fun _ a_ _ _ c => r_eql rfl (c.ev 1 rfl rfl) rfl),
       Ob.det rfl rfl rfl (fun _ a_ _ _ c => r_move rfl (c.ev 2 rfl rfl)),
       Ob.gdet rfl rfl rfl rfl (gi := 3) (tg := 18) rfl rfl Iff.rfl (fun _ a_ _ _ c hpc => r_move rfl (c.eo e0 (by kernel_rfl))),
       Ob.gdet rfl rfl rfl rfl (gi := 3) (tg := 18) rfl rfl Iff.rfl (fun _ a_ _ _ c hpc => r_len rfl Try.underlying23 (c.eg 4 rfl rfl hpc) hS.sl),
       Ob.gdet rfl rfl rfl rfl (gi := 3) (tg := 18) rfl rfl Iff.rfl (fun _ a_ _ _ c hpc => r_gtr rfl (c.eg 5 rfl rfl hpc) rfl),
       Ob.det rfl rfl rfl (fun _ a_ _ _ c => r_or rfl (c.ev 3 rfl rfl) (fun h => (c.eg 6 rfl rfl h))),
     trivial⟩ ?_
  intro a2 w2 τ2 st2 f2
  replace e0 := f2.old e0 (by kernel_rfl)
  replace e1 := f2.old e1 (by kernel_rfl)
  replace e4 := f2.old e4 (by kernel_rfl)
  have e22 : get a2 22 = (.bool ((decide ((xs.length : Int) = 0)) || (decide (64 < (xs.length : Int))))) := f2.v 7 rfl
  clear f2
  show Code.wp _ _ _ a2 w2
  refine wp_cond_split (t := (decide ((xs.length : Int) = 0)) || (decide (64 < (xs.length : Int)))) e22 (fun hc1 => ?_) (fun hc1 => ?_)
  · try simp only [Bool.and_eq_true, Bool.or_eq_true, decide_eq_true_eq, decide_eq_false_iff_not, Bool.not_eq_true', Bool.and_eq_false_iff, Bool.or_eq_false_iff, Bool.not_eq_false', Int.not_lt, Int.not_le, beq_iff_eq, selB] at hc1
    refine wp_seq ?_
    refine region_St (bf := [0, 1]) (sp := [
        (det (Nw w) 23 (.bool (true))),
            (det (Nw w) 4 (.bool (true)))])
      [] mixed st2 (by kernel_rfl) trivial
      ⟨Ob.call rfl rfl rfl (fun _ a_ _ _ c => ⟨_, _, (e_call0 rfl rfl Try.call9), awake_c _⟩),
           Ob.det rfl rfl rfl (fun _ a_ _ _ c => r_assign rfl (c.ev 0 rfl rfl)),
       trivial⟩ ?_
    intro a3 w3 τ3 st3 f3
    replace e0 := f3.old e0 (by kernel_rfl)
    replace e1 := f3.old e1 (by kernel_rfl)
    have e4 : get a3 4 = (.bool (true)) := f3.v 1 rfl
    clear f3
    show Code.wp _ _ _ a3 w3
    refine wp_ret ?_
    repeat (first | with_reducible refine then_ret ?_ | with_reducible refine block_ret ?_)
    refine ret1 (fn := Try.f8) rfl st3.defers e4 ?_
    exact ⟨rfl, st3.ext0⟩
  try simp only [Bool.and_eq_true, Bool.or_eq_true, decide_eq_true_eq, decide_eq_false_iff_not, Bool.not_eq_true', Bool.and_eq_false_iff, Bool.or_eq_false_iff, Bool.not_eq_false', Int.not_lt, Int.not_le, beq_iff_eq, selB] at hc1
  refine wp_skip ?_
  show Code.wp _ _ _ a2 w2
  refine wp_seq ?_
  refine region_St (bf := [0, 1, 3]) (sp := [
      (det (Nw w) 24 v),
        (own SpanE 33 (Nw w) 0 25 (someF xs)),
        (own SpanE 33 (Nw w) 0 5 (someF xs))])
    [] mixed st2 (by kernel_rfl) trivial
    ⟨Ob.det rfl rfl rfl (fun _ a_ _ _ c => r_move rfl (c.eo e0 (by kernel_rfl))),
       Ob.callOwn rfl rfl rfl (fun _ a_ _ _ c => ⟨_, _, (e_call1 rfl rfl Try.call12 (c.ev 0 rfl rfl)), some_c v xs _ (hS.at (st2.ext.trans c.J.ext)) (by omega)⟩),
       Ob.moveT (t0 := 25) rfl rfl rfl rfl rfl (.inr rfl) (fun _ _ _ _ c => ⟨c.rown 1 rfl rfl (by kernel_rfl), rfl⟩),
     trivial⟩ ?_
  intro a4 w4 τ4 st4 f4
  obtain ⟨b4x5, e5⟩ : ∃ b, get a4 5 = b := ⟨_, rfl⟩
  replace e1 := f4.old e1 (by kernel_rfl)
  replace e4 := f4.old e4 (by kernel_rfl)
  have r0 : ownR SpanE 33 (someF xs) (τ4 0) b4x5 w4 := f4.rown 2 rfl rfl e5
  clear f4
  show Code.wp _ _ _ a4 w4
  refine wp_seq ?_
  refine region_St (bf := [0, 1, 3, 7, 7, 15, 63]) (sp := [
      (det (Nw w) 27 b4x5),
        (tup SpanE 33 (Nw w) 1 28 (normF 60 (someF xs)) (.int .i64 (normE 60 (someF xs)))),
        (tup SpanE 33 (Nw w) 1 26 (normF 60 (someF xs)) (.int .i64 (normE 60 (someF xs)))),
        (own SpanE 33 (Nw w) 1 29 (normF 60 (someF xs))),
        (det (Nw w) 30 (.int .i64 (normE 60 (someF xs)))),
        (own SpanE 33 (Nw w) 1 6 (normF 60 (someF xs))),
        (det (Nw w) 7 (.int .i64 (normE 60 (someF xs))))])
    [(iown SpanE 33 (Nw w) b4x5 (someF xs))] mixed st4 (by kernel_rfl) ⟨r0, trivial⟩
    ⟨Ob.det rfl rfl rfl (fun _ a_ _ _ c => r_move rfl (c.eo e5 (by kernel_rfl))),
       Ob.callTup rfl rfl rfl (fun _ a_ _ _ c => ⟨_, _, (e_call2 rfl rfl Try.call10 rfl (c.ev 0 rfl rfl)), norm_c 60 b4x5 (someF xs) _ (c.iown 0 rfl rfl (by kernel_rfl)).1.sl⟩),
       Ob.moveT (t0 := 28) rfl rfl rfl rfl rfl (.inl rfl) (fun _ _ _ _ c => ⟨c.rtup 1 rfl rfl (by kernel_rfl), rfl⟩),
       Ob.part0 (t0 := 26) (k := (.int .i64 (normE 60 (someF xs)))) rfl rfl rfl rfl (fun _ _ _ _ c => c.rtup 2 rfl rfl (by kernel_rfl)),
       Ob.det rfl rfl rfl (fun _ a_ _ _ c => c.part1 2 rfl rfl rfl),
       Ob.moveT (t0 := 29) rfl rfl rfl rfl rfl (.inr rfl) (fun _ _ _ _ c => ⟨c.rown 3 rfl rfl (by kernel_rfl), rfl⟩),
       Ob.det rfl rfl rfl (fun _ a_ _ _ c => r_assign rfl (c.ev 4 rfl rfl)),
     trivial⟩ ?_
  intro a5 w5 τ5 st5 f5
  obtain ⟨b5x6, e6⟩ : ∃ b, get a5 6 = b := ⟨_, rfl⟩
  replace e1 := f5.old e1 (by kernel_rfl)
  replace e4 := f5.old e4 (by kernel_rfl)
  replace e5 := f5.old e5 (by kernel_rfl)
  have e7 : get a5 7 = (.int .i64 (normE 60 (someF xs))) := f5.v 6 rfl
  replace r0 : ownR SpanE 33 (someF xs) (τ5 0) b4x5 w5 := f5.iown 0 rfl rfl
  have r1 : ownR SpanE 33 (normF 60 (someF xs)) (τ5 1) b5x6 w5 := f5.rown 5 rfl rfl e6
  clear f5
  replace e7 := e7.trans (congrArg (Value.int .i64) (show normE 60 (someF xs) = (0 : Int) from norm_some (by omega) (by omega)))
  replace r1 := r1.cast (show ordF (someF xs) = normF 60 (someF xs) from by exact (normF_zero (norm_some (by omega) (by omega))).symm)
  have hol := ordF_le (someF xs)
  have hop := ord_some_pos (xs := xs) (by omega)
  show Code.wp _ _ _ a5 w5
  refine wp_seq ?_
  refine region_St (bf := [0, 1, 3, 7, 7, 15, 63]) (sp := [
      (det (Nw w) 32 b5x6),
        (tup SpanE 33 (Nw w) 2 33 (normF 60 (ordF (someF xs))) (.int .i64 (normE 60 (ordF (someF xs))))),
        (tup SpanE 33 (Nw w) 2 31 (normF 60 (ordF (someF xs))) (.int .i64 (normE 60 (ordF (someF xs))))),
        (own SpanE 33 (Nw w) 2 34 (normF 60 (ordF (someF xs)))),
        (det (Nw w) 35 (.int .i64 (normE 60 (ordF (someF xs))))),
        (own SpanE 33 (Nw w) 2 8 (normF 60 (ordF (someF xs)))),
        (det (Nw w) 9 (.int .i64 (normE 60 (ordF (someF xs)))))])
    [(iown SpanE 33 (Nw w) b4x5 (someF xs)), (iown SpanE 33 (Nw w) b5x6 (ordF (someF xs)))] mixed st5 (by kernel_rfl) ⟨r0, r1, trivial⟩
    ⟨Ob.det rfl rfl rfl (fun _ a_ _ _ c => r_move rfl (c.eo e6 (by kernel_rfl))),
       Ob.callTup rfl rfl rfl (fun _ a_ _ _ c => ⟨_, _, (e_call2 rfl rfl Try.call10 rfl (c.ev 0 rfl rfl)), norm_c 60 b5x6 (ordF (someF xs)) _ (c.iown 1 rfl rfl (by kernel_rfl)).1.sl⟩),
       Ob.moveT (t0 := 33) rfl rfl rfl rfl rfl (.inl rfl) (fun _ _ _ _ c => ⟨c.rtup 1 rfl rfl (by kernel_rfl), rfl⟩),
       Ob.part0 (t0 := 31) (k := (.int .i64 (normE 60 (ordF (someF xs))))) rfl rfl rfl rfl (fun _ _ _ _ c => c.rtup 2 rfl rfl (by kernel_rfl)),
       Ob.det rfl rfl rfl (fun _ a_ _ _ c => c.part1 2 rfl rfl rfl),
       Ob.moveT (t0 := 34) rfl rfl rfl rfl rfl (.inr rfl) (fun _ _ _ _ c => ⟨c.rown 3 rfl rfl (by kernel_rfl), rfl⟩),
       Ob.det rfl rfl rfl (fun _ a_ _ _ c => r_assign rfl (c.ev 4 rfl rfl)),
     trivial⟩ ?_
  intro a6 w6 τ6 st6 f6
  obtain ⟨b6x8, e8⟩ : ∃ b, get a6 8 = b := ⟨_, rfl⟩
  replace e1 := f6.old e1 (by kernel_rfl)
  replace e4 := f6.old e4 (by kernel_rfl)
  replace e5 := f6.old e5 (by kernel_rfl)
  replace e6 := f6.old e6 (by kernel_rfl)
  replace e7 := f6.old e7 (by kernel_rfl)
  have e9 : get a6 9 = (.int .i64 (normE 60 (ordF (someF xs)))) := f6.v 6 rfl
  replace r0 : ownR SpanE 33 (someF xs) (τ6 0) b4x5 w6 := f6.iown 0 rfl rfl
  replace r1 : ownR SpanE 33 (ordF (someF xs)) (τ6 1) b5x6 w6 := f6.iown 1 rfl rfl
  have r2 : ownR SpanE 33 (normF 60 (ordF (someF xs))) (τ6 2) b6x8 w6 := f6.rown 5 rfl rfl e8
  clear f6
  replace e9 := e9.trans (congrArg (Value.int .i64) (show normE 60 (ordF (someF xs)) = (0 : Int) from norm_some2 (by omega) (by omega)))
  replace r2 := r2.cast (show ordF (someF xs) = normF 60 (ordF (someF xs)) from by exact ((normF_zero (norm_some2 (by omega) (by omega))).trans (ordF_id _ (ordF_par _))).symm)
  show Code.wp _ _ _ a6 w6
  refine wp_seq ?_
  refine wp_seq ?_
  refine region_St (bf := [0, 1, 3, 7, 15, 31, 63, 127, 255, 511, 1023, 2047, 4095, 4095, 16383, 32767, 65535]) (sp := [
      (det (Nw w) 36 (.int .i64 (0))),
        (det (Nw w) 37 (.bool (false))),
        (det (Nw w) 38 (.bool (false))),
        (det (Nw w) 39 (.int .i64 (0))),
        (det (Nw w) 40 (.bool (false))),
        (det (Nw w) 41 (.bool (false))),
        (det (Nw w) 42 (.bool (false))),
        (det (Nw w) 43 b5x6),
        (det (Nw w) 44 (.int .i64 (((ordF (someF xs)).length : Int)))),
        (det (Nw w) 45 (.bool (false))),
        (det (Nw w) 46 (.bool (false))),
        (det (Nw w) 47 (.bool (false))),
        (det (Nw w) 48 b5x6),
        (det (Nw w) 49 b6x8),
        (det (Nw w) 50 (.bool (true))),
        (det (Nw w) 51 (.bool (false))),
        (det (Nw w) 52 (.bool (false)))])
    [(iown SpanE 33 (Nw w) b4x5 (someF xs)), (iown SpanE 33 (Nw w) b5x6 (ordF (someF xs))), (iown SpanE 33 (Nw w) b6x8 (ordF (someF xs)))] mixed st6 (by kernel_rfl) ⟨r0, r1, r2, trivial⟩
    ⟨Ob.det rfl rfl rfl (fun _ a_ _ _ c => r_move rfl (c.eo e7 (by kernel_rfl))),
       Ob.det rfl rfl rfl (fun _ a_ _ _ c => Runs.isB (b := !decide (0 = 0)) (r_neq rfl (c.ev 0 rfl rfl) rfl) (by decide)),
       Ob.det rfl rfl rfl (fun _ a_ _ _ c => r_move rfl (c.ev 1 rfl rfl)),
       Ob.live (gi := 2) (tg := 38) rfl rfl rfl rfl (Ob.det rfl rfl rfl (fun _ a_ _ _ c => r_move rfl (c.eo e9 (by kernel_rfl)))),
       Ob.live (gi := 2) (tg := 38) rfl rfl rfl rfl (Ob.det rfl rfl rfl (fun _ a_ _ _ c => Runs.isB (b := !decide (0 = 0)) (r_neq rfl (c.ev 3 rfl rfl) rfl) (by decide))),
       Ob.det rfl rfl rfl (fun _ a_ _ _ c => r_pick rfl (c.ev 2 rfl rfl) (fun h => by cases h) (fun _ => (c.ev 4 rfl rfl))),
       Ob.det rfl rfl rfl (fun _ a_ _ _ c => r_move rfl (c.ev 5 rfl rfl)),
       Ob.live (gi := 6) (tg := 42) rfl rfl rfl rfl (Ob.det rfl rfl rfl (fun _ a_ _ _ c => r_move rfl (c.eo e6 (by kernel_rfl)))),
       Ob.live (gi := 6) (tg := 42) rfl rfl rfl rfl (Ob.det rfl rfl rfl (fun _ a_ _ _ c => r_len rfl Try.underlying22 (c.ev 7 rfl rfl) r1.isSl)),
       Ob.live (gi := 6) (tg := 42) rfl rfl rfl rfl (Ob.det rfl rfl rfl (fun _ a_ _ _ c => Runs.isB (b := decide (((ordF (someF xs)).length : Int) = 0)) (r_eql rfl (c.ev 8 rfl rfl) rfl) (by exact decide_eq_false (by omega)))),
       Ob.det rfl rfl rfl (fun _ a_ _ _ c => r_pick rfl (c.ev 6 rfl rfl) (fun h => by cases h) (fun _ => (c.ev 9 rfl rfl))),
       Ob.det rfl rfl rfl (fun _ a_ _ _ c => r_move rfl (c.ev 10 rfl rfl)),
       Ob.live (gi := 11) (tg := 47) rfl rfl rfl rfl (Ob.det rfl rfl rfl (fun _ a_ _ _ c => r_move rfl (c.eo e6 (by kernel_rfl)))),
       Ob.live (gi := 11) (tg := 47) rfl rfl rfl rfl (Ob.det rfl rfl rfl (fun _ a_ _ _ c => r_move rfl (c.eo e8 (by kernel_rfl)))),
       Ob.live (gi := 11) (tg := 47) rfl rfl rfl rfl (Ob.call rfl rfl rfl (fun _ a_ _ _ c => ⟨_, _, (e_call2 rfl rfl Try.call13 (c.ev 12 rfl rfl) (c.ev 13 rfl rfl)), Calls.isB (b := decide (ordF (someF xs) = ordF (someF xs))) (selsEq_c b5x6 b6x8 (ordF (someF xs)) (ordF (someF xs)) _ (c.iown 1 rfl rfl (by kernel_rfl)).1.sl (c.iown 2 rfl rfl (by kernel_rfl)).1.sl) (by exact decide_eq_true rfl)⟩)),
       Ob.live (gi := 11) (tg := 47) rfl rfl rfl rfl (Ob.det rfl rfl rfl (fun _ a_ _ _ c => Runs.isB (b := !true) (r_not rfl (c.ev 14 rfl rfl)) (by rfl))),
       Ob.det rfl rfl rfl (fun _ a_ _ _ c => r_pick rfl (c.ev 11 rfl rfl) (fun h => by cases h) (fun _ => (c.ev 15 rfl rfl))),
     trivial⟩ ?_
  intro a7 w7 τ7 st7 f7
  replace e1 := f7.old e1 (by kernel_rfl)
  replace e4 := f7.old e4 (by kernel_rfl)
  replace e5 := f7.old e5 (by kernel_rfl)
  replace e6 := f7.old e6 (by kernel_rfl)
  have e52 : get a7 52 = (.bool (false)) := f7.v 16 rfl
  replace r0 : ownR SpanE 33 (someF xs) (τ7 0) b4x5 w7 := f7.iown 0 rfl rfl
  replace r1 : ownR SpanE 33 (ordF (someF xs)) (τ7 1) b5x6 w7 := f7.iown 1 rfl rfl
  clear f7
  show Code.wp _ _ _ a7 w7
  refine wp_cond_false e52 ?_
  refine wp_skip ?_
  show Code.wp _ _ _ a7 w7
  refine wp_seq ?_
  refine region_St (bf := [0, 1, 3]) (sp := [
      (det (Nw w) 53 (.int .i64 (n))),
        (det (Nw w) 54 (.int .i64 (lowF n 61))),
        (det (Nw w) 10 (.int .i64 (lowF n 61)))])
    [(iown SpanE 33 (Nw w) b4x5 (someF xs)), (iown SpanE 33 (Nw w) b5x6 (ordF (someF xs)))] mixed st7 (by kernel_rfl) ⟨r0, r1, trivial⟩
    ⟨Ob.det rfl rfl rfl (fun _ a_ _ _ c => r_move rfl (c.eo e1 (by kernel_rfl))),
       Ob.call rfl rfl rfl (fun _ a_ _ _ c => ⟨_, _, (e_call2 rfl rfl Try.call14 (c.ev 0 rfl rfl) rfl), low_c n 61 _ (by omega) (by omega)⟩),
       Ob.det rfl rfl rfl (fun _ a_ _ _ c => r_assign rfl (c.ev 1 rfl rfl)),
     trivial⟩ ?_
  intro a8 w8 τ8 st8 f8
  replace e4 := f8.old e4 (by kernel_rfl)
  replace e5 := f8.old e5 (by kernel_rfl)
  replace e6 := f8.old e6 (by kernel_rfl)
  have e10 : get a8 10 = (.int .i64 (lowF n 61)) := f8.v 2 rfl
  replace r0 : ownR SpanE 33 (someF xs) (τ8 0) b4x5 w8 := f8.iown 0 rfl rfl
  replace r1 : ownR SpanE 33 (ordF (someF xs)) (τ8 1) b5x6 w8 := f8.iown 1 rfl rfl
  clear f8
  show Code.wp _ _ _ a8 w8
  refine wp_seq ?_
  refine region_St (bf := [0, 1]) (sp := [
      (det (Nw w) 11 (.bool (false))),
        (det (Nw w) 12 (.bool (false)))])
    [(iown SpanE 33 (Nw w) b4x5 (someF xs)), (iown SpanE 33 (Nw w) b5x6 (ordF (someF xs)))] mixed st8 (by kernel_rfl) ⟨r0, r1, trivial⟩
    ⟨Ob.det rfl rfl rfl (fun _ a_ _ _ c => r_assign rfl rfl),
       Ob.det rfl rfl rfl (fun _ a_ _ _ c => r_assign rfl rfl),
     trivial⟩ ?_
  intro a9 w9 τ9 st9 f9
  replace e4 := f9.old e4 (by kernel_rfl)
  replace e5 := f9.old e5 (by kernel_rfl)
  replace e6 := f9.old e6 (by kernel_rfl)
  replace e10 := f9.old e10 (by kernel_rfl)
  have e11 : get a9 11 = (.bool (false)) := f9.v 0 rfl
  have e12 : get a9 12 = (.bool (false)) := f9.v 1 rfl
  replace r0 : ownR SpanE 33 (someF xs) (τ9 0) b4x5 w9 := f9.iown 0 rfl rfl
  replace r1 : ownR SpanE 33 (ordF (someF xs)) (τ9 1) b5x6 w9 := f9.iown 1 rfl rfl
  clear f9
  show Code.wp _ _ _ a9 w9
  refine wp_seq ?_
  refine wp_seq ?_
  refine region_St (bf := [0]) (sp := [
      (det (Nw w) 13 (.int .i64 (0)))])
    [(iown SpanE 33 (Nw w) b4x5 (someF xs)), (iown SpanE 33 (Nw w) b5x6 (ordF (someF xs)))] mixed st9 (by kernel_rfl) ⟨r0, r1, trivial⟩
    ⟨Ob.det rfl rfl rfl (fun _ a_ _ _ c => r_assign rfl rfl),
     trivial⟩ ?_
  intro a10 w10 τ10 st10 f10
  replace e4 := f10.old e4 (by kernel_rfl)
  replace e5 := f10.old e5 (by kernel_rfl)
  replace e6 := f10.old e6 (by kernel_rfl)
  replace e10 := f10.old e10 (by kernel_rfl)
  replace e11 := f10.old e11 (by kernel_rfl)
  replace e12 := f10.old e12 (by kernel_rfl)
  have e13 : get a10 13 = (.int .i64 (0)) := f10.v 0 rfl
  replace r0 : ownR SpanE 33 (someF xs) (τ10 0) b4x5 w10 := f10.iown 0 rfl rfl
  replace r1 : ownR SpanE 33 (ordF (someF xs)) (τ10 1) b5x6 w10 := f10.iown 1 rfl rfl
  clear f10
  show Code.wp _ _ _ a10 w10
  refine wp_block ?_
  refine wp_loop (fun a_ w_ => ∃ (i : Nat) (τ : Nat → Foot), (i ≤ xs.length) ∧
        St (Nw w) w 111 a_ w_ τ ∧
        get a_ 11 = (.bool (((someF xs).take i).any (fun s => hasB (sspan s) (lowF n 61)))) ∧
        get a_ 13 = (.int .i64 ((i : Int))) ∧
        get a_ 4 = (.bool (false)) ∧
        get a_ 5 = b4x5 ∧
        get a_ 6 = b5x6 ∧
        get a_ 10 = (.int .i64 (lowF n 61)) ∧
        get a_ 12 = (.bool (false)) ∧
        ownR SpanE 33 (someF xs) (τ 0) b4x5 w_ ∧
        ownR SpanE 33 (ordF (someF xs)) (τ 1) b5x6 w_) (fun a_ _ => xs.length - (intOf (get a_ 13)).toNat) ?_ ?_
  · refine ⟨0, τ10, ?_, st10, (e11.trans (congrArg _ (by rfl))), (e13.trans (int_eq (by omega))), e4, e5, e6, e10, e12, r0, r1⟩
    · omega
  intro a11 w11 hI
  obtain ⟨i, τ11, q0, st11, e11, e13, e4, e5, e6, e10, e12, r0, r1⟩ := hI
  have m13 := e13
  refine wp_seq ?_
  refine wp_seq ?_
  refine region_St (bf := [0, 0, 2, 7]) (sp := [
      (det (Nw w) 55 (.int .i64 ((i : Int)))),
        (det (Nw w) 56 b4x5),
        (det (Nw w) 57 (.int .i64 (((someF xs).length : Int)))),
        (det (Nw w) 58 (.bool (decide ((i : Int) < ((someF xs).length : Int)))))])
    [(iown SpanE 33 (Nw w) b4x5 (someF xs)), (iown SpanE 33 (Nw w) b5x6 (ordF (someF xs)))] mixed st11 (by kernel_rfl) ⟨r0, r1, trivial⟩
    ⟨Ob.det rfl rfl rfl (fun _ a_ _ _ c => r_move rfl (c.eo e13 (by kernel_rfl))),
       Ob.det rfl rfl rfl (fun _ a_ _ _ c => r_move rfl (c.eo e5 (by kernel_rfl))),
       Ob.det rfl rfl rfl (fun _ a_ _ _ c => r_len rfl Try.underlying22 (c.ev 1 rfl rfl) r0.isSl),
       Ob.det rfl rfl rfl (fun _ a_ _ _ c => r_lss rfl (c.ev 0 rfl rfl) (c.ev 2 rfl rfl)),
     trivial⟩ ?_
  intro a12 w12 τ12 st12 f12
  replace e4 := f12.old e4 (by kernel_rfl)
  replace e5 := f12.old e5 (by kernel_rfl)
  replace e6 := f12.old e6 (by kernel_rfl)
  replace e10 := f12.old e10 (by kernel_rfl)
  replace e11 := f12.old e11 (by kernel_rfl)
  replace e12 := f12.old e12 (by kernel_rfl)
  replace e13 := f12.old e13 (by kernel_rfl)
  have e58 : get a12 58 = (.bool (decide ((i : Int) < ((someF xs).length : Int)))) := f12.v 3 rfl
  replace r0 : ownR SpanE 33 (someF xs) (τ12 0) b4x5 w12 := f12.iown 0 rfl rfl
  replace r1 : ownR SpanE 33 (ordF (someF xs)) (τ12 1) b5x6 w12 := f12.iown 1 rfl rfl
  clear f12
  show Code.wp _ _ _ a12 w12
  refine wp_cond_split (t := decide ((i : Int) < ((someF xs).length : Int))) e58 (fun hc3 => ?_) (fun hc3 => ?_)
  · try simp only [Bool.and_eq_true, Bool.or_eq_true, decide_eq_true_eq, decide_eq_false_iff_not, Bool.not_eq_true', Bool.and_eq_false_iff, Bool.or_eq_false_iff, Bool.not_eq_false', Int.not_lt, Int.not_le, beq_iff_eq, selB] at hc3
    refine wp_skip ?_
    show Code.wp _ _ _ a12 w12
    refine wp_seq ?_
    refine wp_block ?_
    refine region_St (bf := [0, 1, 3, 3, 15, 31, 63, 3, 255, 511, 1023]) (sp := [
        (det (Nw w) 61 (.bool (((someF xs).take i).any (fun s => hasB (sspan s) (lowF n 61))))),
            (det (Nw w) 62 (.bool (((someF xs).take i).any (fun s => hasB (sspan s) (lowF n 61))))),
            (gdet (Nw w) 63 ((((someF xs).take i).any (fun s => hasB (sspan s) (lowF n 61))) = false) b4x5),
            (gdet (Nw w) 64 ((((someF xs).take i).any (fun s => hasB (sspan s) (lowF n 61))) = false) (.int .i64 ((i : Int)))),
            (gdet (Nw w) 65 ((((someF xs).take i).any (fun s => hasB (sspan s) (lowF n 61))) = false) (.pointer (some ((ptrOf b4x5).add (((i : Int) : Int).toNat * 2))))),
            (gdet (Nw w) 66 ((((someF xs).take i).any (fun s => hasB (sspan s) (lowF n 61))) = false) (.agg #[(.int .i64 ((nth (someF xs) ((i : Int))).1)), (.int .i64 ((nth (someF xs) ((i : Int))).2))])),
            (gdet (Nw w) 67 ((((someF xs).take i).any (fun s => hasB (sspan s) (lowF n 61))) = false) (.agg #[(.int .i64 ((sspan (nth (someF xs) ((i : Int)))).1)), (.int .i64 ((sspan (nth (someF xs) ((i : Int)))).2))])),
            (gdet (Nw w) 68 ((((someF xs).take i).any (fun s => hasB (sspan s) (lowF n 61))) = false) (.int .i64 (lowF n 61))),
            (gdet (Nw w) 69 ((((someF xs).take i).any (fun s => hasB (sspan s) (lowF n 61))) = false) (.bool (hasB (sspan (nth (someF xs) ((i : Int)))) (lowF n 61)))),
            (det (Nw w) 70 (.bool ((((someF xs).take i).any (fun s => hasB (sspan s) (lowF n 61))) || (hasB (sspan (nth (someF xs) ((i : Int)))) (lowF n 61))))),
            (det (Nw w) 11 (.bool ((((someF xs).take i).any (fun s => hasB (sspan s) (lowF n 61))) || (hasB (sspan (nth (someF xs) ((i : Int)))) (lowF n 61)))))])
      [(iown SpanE 33 (Nw w) b4x5 (someF xs)), (iown SpanE 33 (Nw w) b5x6 (ordF (someF xs)))] mixed st12 (by kernel_rfl) ⟨r0, r1, trivial⟩
      ⟨Ob.det rfl rfl rfl (fun _ a_ _ _ c => r_move rfl (c.eo e11 (by kernel_rfl))),
           Ob.det rfl rfl rfl (fun _ a_ _ _ c => r_move rfl (c.ev 0 rfl rfl)),
           Ob.gdet rfl rfl rfl rfl (gi := 1) (tg := 62) rfl rfl Iff.rfl (fun _ a_ _ _ c hpc => r_move rfl (c.eo e5 (by kernel_rfl))),
           Ob.gdet rfl rfl rfl rfl (gi := 1) (tg := 62) rfl rfl Iff.rfl (fun _ a_ _ _ c hpc => r_move rfl (c.eo e13 (by kernel_rfl))),
           Ob.gdet rfl rfl rfl rfl (gi := 1) (tg := 62) rfl rfl Iff.rfl (fun _ a_ _ _ c hpc => r_indexAddr rfl Try.underlying22 Try.sizeOf33 (c.eg 2 rfl rfl hpc) r0.isSl (c.eg 3 rfl rfl hpc) (by have hq0 := hpc; (try simp only [Bool.and_eq_true, Bool.or_eq_true, decide_eq_true_eq, decide_eq_false_iff_not, Bool.not_eq_true', Bool.and_eq_false_iff, Bool.or_eq_false_iff, Bool.not_eq_false', Int.not_lt, Int.not_le, beq_iff_eq, selB] at hq0); omega) (by have hq0 := hpc; (try simp only [Bool.and_eq_true, Bool.or_eq_true, decide_eq_true_eq, decide_eq_false_iff_not, Bool.not_eq_true', Bool.and_eq_false_iff, Bool.or_eq_false_iff, Bool.not_eq_false', Int.not_lt, Int.not_le, beq_iff_eq, selB] at hq0); omega)),
           Ob.gdet rfl rfl rfl rfl (gi := 1) (tg := 62) rfl rfl Iff.rfl (fun _ a_ _ _ c hpc => r_loadN (vs := [(.int .i64 ((nth (someF xs) ((i : Int))).1)), (.int .i64 ((nth (someF xs) ((i : Int))).2))]) rfl Try.isAgg33 Try.sizeOf33 (c.eg 4 rfl rfl hpc) rfl (fun _ _ hj => ((c.iown 0 rfl rfl (by kernel_rfl)).1.sl).elem (nth_some (by have hq0 := hpc; (try simp only [Bool.and_eq_true, Bool.or_eq_true, decide_eq_true_eq, decide_eq_false_iff_not, Bool.not_eq_true', Bool.and_eq_false_iff, Bool.or_eq_false_iff, Bool.not_eq_false', Int.not_lt, Int.not_le, beq_iff_eq, selB] at hq0); omega) (by have hq0 := hpc; (try simp only [Bool.and_eq_true, Bool.or_eq_true, decide_eq_true_eq, decide_eq_false_iff_not, Bool.not_eq_true', Bool.and_eq_false_iff, Bool.or_eq_false_iff, Bool.not_eq_false', Int.not_lt, Int.not_le, beq_iff_eq, selB] at hq0); omega)) hj)),
           Ob.gcall rfl rfl rfl rfl (gi := 1) (tg := 62) rfl rfl Iff.rfl (fun _ a_ _ _ c hpc => ⟨_, _, (e_call1 rfl rfl Try.call15 (c.eg 5 rfl rfl hpc)), selSpan_c (nth (someF xs) ((i : Int))) _⟩),
           Ob.gdet rfl rfl rfl rfl (gi := 1) (tg := 62) rfl rfl Iff.rfl (fun _ a_ _ _ c hpc => r_move rfl (c.eo e10 (by kernel_rfl))),
           Ob.gcall rfl rfl rfl rfl (gi := 1) (tg := 62) rfl rfl Iff.rfl (fun _ a_ _ _ c hpc => ⟨_, _, (e_call2 rfl rfl Try.call17 (c.eg 6 rfl rfl hpc) (c.eg 7 rfl rfl hpc)), has_c (sspan (nth (someF xs) ((i : Int)))) (lowF n 61) _⟩),
           Ob.det rfl rfl rfl (fun _ a_ _ _ c => r_or rfl (c.ev 1 rfl rfl) (fun h => (c.eg 8 rfl rfl h))),
           Ob.det rfl rfl rfl (fun _ a_ _ _ c => r_assign rfl (c.ev 9 rfl rfl)),
       trivial⟩ ?_
    intro a13 w13 τ13 st13 f13
    replace e4 := f13.old e4 (by kernel_rfl)
    replace e5 := f13.old e5 (by kernel_rfl)
    replace e6 := f13.old e6 (by kernel_rfl)
    replace e10 := f13.old e10 (by kernel_rfl)
    have e11 : get a13 11 = (.bool ((((someF xs).take i).any (fun s => hasB (sspan s) (lowF n 61))) || (hasB (sspan (nth (someF xs) ((i : Int)))) (lowF n 61)))) := f13.v 10 rfl
    replace e12 := f13.old e12 (by kernel_rfl)
    replace e13 := f13.old e13 (by kernel_rfl)
    replace e58 := f13.old e58 (by kernel_rfl)
    replace r0 : ownR SpanE 33 (someF xs) (τ13 0) b4x5 w13 := f13.iown 0 rfl rfl
    replace r1 : ownR SpanE 33 (ordF (someF xs)) (τ13 1) b5x6 w13 := f13.iown 1 rfl rfl
    clear f13
    show _
    show Code.wp _ _ _ a13 w13
    refine region_St (bf := [0, 1, 3]) (sp := [
        (det (Nw w) 59 (.int .i64 ((i : Int)))),
            (det (Nw w) 60 (.int .i64 ((i : Int) + 1))),
            (det (Nw w) 13 (.int .i64 ((i : Int) + 1)))])
      [(iown SpanE 33 (Nw w) b4x5 (someF xs)), (iown SpanE 33 (Nw w) b5x6 (ordF (someF xs)))] mixed st13 (by kernel_rfl) ⟨r0, r1, trivial⟩
      ⟨Ob.det rfl rfl rfl (fun _ a_ _ _ c => r_move rfl (c.eo e13 (by kernel_rfl))),
           Ob.det rfl rfl rfl (fun _ a_ _ _ c => r_add rfl (c.ev 0 rfl rfl) rfl (by omega)),
           Ob.det rfl rfl rfl (fun _ a_ _ _ c => r_assign rfl (c.ev 1 rfl rfl)),
       trivial⟩ ?_
    intro a14 w14 τ14 st14 f14
    replace e4 := f14.old e4 (by kernel_rfl)
    replace e5 := f14.old e5 (by kernel_rfl)
    replace e6 := f14.old e6 (by kernel_rfl)
    replace e10 := f14.old e10 (by kernel_rfl)
    replace e11 := f14.old e11 (by kernel_rfl)
    replace e12 := f14.old e12 (by kernel_rfl)
    have e13 : get a14 13 = (.int .i64 ((i : Int) + 1)) := f14.v 2 rfl
    replace e58 := f14.old e58 (by kernel_rfl)
    replace r0 : ownR SpanE 33 (someF xs) (τ14 0) b4x5 w14 := f14.iown 0 rfl rfl
    replace r1 : ownR SpanE 33 (ordF (someF xs)) (τ14 1) b5x6 w14 := f14.iown 1 rfl rfl
    clear f14
    refine ⟨⟨i + 1, τ14, ?_, st14, (e11.trans (congrArg _ (by rw [any_snoc (by omega)]))), (e13.trans (int_eq (by omega))), e4, e5, e6, e10, e12, r0, r1⟩, ?_⟩
    · omega
    · simp only [m13, e13, intOf]; omega
  try simp only [Bool.and_eq_true, Bool.or_eq_true, decide_eq_true_eq, decide_eq_false_iff_not, Bool.not_eq_true', Bool.and_eq_false_iff, Bool.or_eq_false_iff, Bool.not_eq_false', Int.not_lt, Int.not_le, beq_iff_eq, selB] at hc3
  refine wp_exit ?_
  repeat (with_reducible refine then_exit ?_)
  refine exit_here ?_
  show Code.wp _ _ _ a12 w12
  refine wp_seq ?_
  refine wp_seq ?_
  refine region_St (bf := [0]) (sp := [
      (det (Nw w) 14 (.int .i64 (0)))])
    [(iown SpanE 33 (Nw w) b4x5 (someF xs)), (iown SpanE 33 (Nw w) b5x6 (ordF (someF xs)))] mixed st12 (by kernel_rfl) ⟨r0, r1, trivial⟩
    ⟨Ob.det rfl rfl rfl (fun _ a_ _ _ c => r_assign rfl rfl),
     trivial⟩ ?_
  intro a15 w15 τ15 st15 f15
  replace e4 := f15.old e4 (by kernel_rfl)
  replace e6 := f15.old e6 (by kernel_rfl)
  replace e10 := f15.old e10 (by kernel_rfl)
  replace e11 := f15.old e11 (by kernel_rfl)
  replace e12 := f15.old e12 (by kernel_rfl)
  have e14 : get a15 14 = (.int .i64 (0)) := f15.v 0 rfl
  replace r1 : ownR SpanE 33 (ordF (someF xs)) (τ15 1) b5x6 w15 := f15.iown 1 rfl rfl
  clear f15
  show Code.wp _ _ _ a15 w15
  refine wp_block ?_
  refine wp_loop (fun a_ w_ => ∃ (j : Nat) (τ : Nat → Foot), (j ≤ (ordF (someF xs)).length) ∧
        St (Nw w) w 111 a_ w_ τ ∧
        get a_ 12 = (.bool (((ordF (someF xs)).take j).any (fun s => hasB (sspan s) (lowF n 61)))) ∧
        get a_ 14 = (.int .i64 ((j : Int))) ∧
        get a_ 6 = b5x6 ∧
        get a_ 10 = (.int .i64 (lowF n 61)) ∧
        get a_ 11 = (.bool (((someF xs).take i).any (fun s => hasB (sspan s) (lowF n 61)))) ∧
        ownR SpanE 33 (ordF (someF xs)) (τ 1) b5x6 w_) (fun a_ _ => (ordF (someF xs)).length - (intOf (get a_ 14)).toNat) ?_ ?_
  · refine ⟨0, τ15, ?_, st15, (e12.trans (congrArg _ (by rfl))), (e14.trans (int_eq (by omega))), e6, e10, e11, r1⟩
    · omega
  intro a16 w16 hI
  obtain ⟨j, τ16, q0, st16, e12, e14, e6, e10, e11, r1⟩ := hI
  have m14 := e14
  refine wp_seq ?_
  refine wp_seq ?_
  refine region_St (bf := [0, 0, 2, 7]) (sp := [
      (det (Nw w) 71 (.int .i64 ((j : Int)))),
        (det (Nw w) 72 b5x6),
        (det (Nw w) 73 (.int .i64 (((ordF (someF xs)).length : Int)))),
        (det (Nw w) 74 (.bool (decide ((j : Int) < ((ordF (someF xs)).length : Int)))))])
    [(Ini.any (Nw w)), (iown SpanE 33 (Nw w) b5x6 (ordF (someF xs)))] mixed st16 (by kernel_rfl) ⟨trivial, r1, trivial⟩
    ⟨Ob.det rfl rfl rfl (fun _ a_ _ _ c => r_move rfl (c.eo e14 (by kernel_rfl))),
       Ob.det rfl rfl rfl (fun _ a_ _ _ c => r_move rfl (c.eo e6 (by kernel_rfl))),
       Ob.det rfl rfl rfl (fun _ a_ _ _ c => r_len rfl Try.underlying22 (c.ev 1 rfl rfl) r1.isSl),
       Ob.det rfl rfl rfl (fun _ a_ _ _ c => r_lss rfl (c.ev 0 rfl rfl) (c.ev 2 rfl rfl)),
     trivial⟩ ?_
  intro a17 w17 τ17 st17 f17
  replace e6 := f17.old e6 (by kernel_rfl)
  replace e10 := f17.old e10 (by kernel_rfl)
  replace e11 := f17.old e11 (by kernel_rfl)
  replace e12 := f17.old e12 (by kernel_rfl)
  replace e14 := f17.old e14 (by kernel_rfl)
  have e74 : get a17 74 = (.bool (decide ((j : Int) < ((ordF (someF xs)).length : Int)))) := f17.v 3 rfl
  replace r1 : ownR SpanE 33 (ordF (someF xs)) (τ17 1) b5x6 w17 := f17.iown 1 rfl rfl
  clear f17
  show Code.wp _ _ _ a17 w17
  refine wp_cond_split (t := decide ((j : Int) < ((ordF (someF xs)).length : Int))) e74 (fun hc4 => ?_) (fun hc4 => ?_)
  · try simp only [Bool.and_eq_true, Bool.or_eq_true, decide_eq_true_eq, decide_eq_false_iff_not, Bool.not_eq_true', Bool.and_eq_false_iff, Bool.or_eq_false_iff, Bool.not_eq_false', Int.not_lt, Int.not_le, beq_iff_eq, selB] at hc4
    refine wp_skip ?_
    show Code.wp _ _ _ a17 w17
    refine wp_seq ?_
    refine wp_block ?_
    refine wp_seq ?_
    refine region_St (bf := [0, 1, 3, 3, 15, 31, 63, 3, 255, 511, 1023]) (sp := [
        (det (Nw w) 77 (.bool (((ordF (someF xs)).take j).any (fun s => hasB (sspan s) (lowF n 61))))),
            (det (Nw w) 78 (.bool (((ordF (someF xs)).take j).any (fun s => hasB (sspan s) (lowF n 61))))),
            (gdet (Nw w) 79 ((((ordF (someF xs)).take j).any (fun s => hasB (sspan s) (lowF n 61))) = false) b5x6),
            (gdet (Nw w) 80 ((((ordF (someF xs)).take j).any (fun s => hasB (sspan s) (lowF n 61))) = false) (.int .i64 ((j : Int)))),
            (gdet (Nw w) 81 ((((ordF (someF xs)).take j).any (fun s => hasB (sspan s) (lowF n 61))) = false) (.pointer (some ((ptrOf b5x6).add (((j : Int) : Int).toNat * 2))))),
            (gdet (Nw w) 82 ((((ordF (someF xs)).take j).any (fun s => hasB (sspan s) (lowF n 61))) = false) (.agg #[(.int .i64 ((nth (ordF (someF xs)) ((j : Int))).1)), (.int .i64 ((nth (ordF (someF xs)) ((j : Int))).2))])),
            (gdet (Nw w) 83 ((((ordF (someF xs)).take j).any (fun s => hasB (sspan s) (lowF n 61))) = false) (.agg #[(.int .i64 ((sspan (nth (ordF (someF xs)) ((j : Int)))).1)), (.int .i64 ((sspan (nth (ordF (someF xs)) ((j : Int)))).2))])),
            (gdet (Nw w) 84 ((((ordF (someF xs)).take j).any (fun s => hasB (sspan s) (lowF n 61))) = false) (.int .i64 (lowF n 61))),
            (gdet (Nw w) 85 ((((ordF (someF xs)).take j).any (fun s => hasB (sspan s) (lowF n 61))) = false) (.bool (hasB (sspan (nth (ordF (someF xs)) ((j : Int)))) (lowF n 61)))),
            (det (Nw w) 86 (.bool ((((ordF (someF xs)).take j).any (fun s => hasB (sspan s) (lowF n 61))) || (hasB (sspan (nth (ordF (someF xs)) ((j : Int)))) (lowF n 61))))),
            (det (Nw w) 12 (.bool ((((ordF (someF xs)).take j).any (fun s => hasB (sspan s) (lowF n 61))) || (hasB (sspan (nth (ordF (someF xs)) ((j : Int)))) (lowF n 61)))))])
      [(Ini.any (Nw w)), (iown SpanE 33 (Nw w) b5x6 (ordF (someF xs)))] mixed st17 (by kernel_rfl) ⟨trivial, r1, trivial⟩
      ⟨Ob.det rfl rfl rfl (fun _ a_ _ _ c => r_move rfl (c.eo e12 (by kernel_rfl))),
           Ob.det rfl rfl rfl (fun _ a_ _ _ c => r_move rfl (c.ev 0 rfl rfl)),
           Ob.gdet rfl rfl rfl rfl (gi := 1) (tg := 78) rfl rfl Iff.rfl (fun _ a_ _ _ c hpc => r_move rfl (c.eo e6 (by kernel_rfl))),
           Ob.gdet rfl rfl rfl rfl (gi := 1) (tg := 78) rfl rfl Iff.rfl (fun _ a_ _ _ c hpc => r_move rfl (c.eo e14 (by kernel_rfl))),
           Ob.gdet rfl rfl rfl rfl (gi := 1) (tg := 78) rfl rfl Iff.rfl (fun _ a_ _ _ c hpc => r_indexAddr rfl Try.underlying22 Try.sizeOf33 (c.eg 2 rfl rfl hpc) r1.isSl (c.eg 3 rfl rfl hpc) (by have hq0 := hpc; (try simp only [Bool.and_eq_true, Bool.or_eq_true, decide_eq_true_eq, decide_eq_false_iff_not, Bool.not_eq_true', Bool.and_eq_false_iff, Bool.or_eq_false_iff, Bool.not_eq_false', Int.not_lt, Int.not_le, beq_iff_eq, selB] at hq0); omega) (by have hq0 := hpc; (try simp only [Bool.and_eq_true, Bool.or_eq_true, decide_eq_true_eq, decide_eq_false_iff_not, Bool.not_eq_true', Bool.and_eq_false_iff, Bool.or_eq_false_iff, Bool.not_eq_false', Int.not_lt, Int.not_le, beq_iff_eq, selB] at hq0); omega)),
           Ob.gdet rfl rfl rfl rfl (gi := 1) (tg := 78) rfl rfl Iff.rfl (fun _ a_ _ _ c hpc => r_loadN (vs := [(.int .i64 ((nth (ordF (someF xs)) ((j : Int))).1)), (.int .i64 ((nth (ordF (someF xs)) ((j : Int))).2))]) rfl Try.isAgg33 Try.sizeOf33 (c.eg 4 rfl rfl hpc) rfl (fun _ _ hj => ((c.iown 1 rfl rfl (by kernel_rfl)).1.sl).elem (nth_some (by have hq0 := hpc; (try simp only [Bool.and_eq_true, Bool.or_eq_true, decide_eq_true_eq, decide_eq_false_iff_not, Bool.not_eq_true', Bool.and_eq_false_iff, Bool.or_eq_false_iff, Bool.not_eq_false', Int.not_lt, Int.not_le, beq_iff_eq, selB] at hq0); omega) (by have hq0 := hpc; (try simp only [Bool.and_eq_true, Bool.or_eq_true, decide_eq_true_eq, decide_eq_false_iff_not, Bool.not_eq_true', Bool.and_eq_false_iff, Bool.or_eq_false_iff, Bool.not_eq_false', Int.not_lt, Int.not_le, beq_iff_eq, selB] at hq0); omega)) hj)),
           Ob.gcall rfl rfl rfl rfl (gi := 1) (tg := 78) rfl rfl Iff.rfl (fun _ a_ _ _ c hpc => ⟨_, _, (e_call1 rfl rfl Try.call15 (c.eg 5 rfl rfl hpc)), selSpan_c (nth (ordF (someF xs)) ((j : Int))) _⟩),
           Ob.gdet rfl rfl rfl rfl (gi := 1) (tg := 78) rfl rfl Iff.rfl (fun _ a_ _ _ c hpc => r_move rfl (c.eo e10 (by kernel_rfl))),
           Ob.gcall rfl rfl rfl rfl (gi := 1) (tg := 78) rfl rfl Iff.rfl (fun _ a_ _ _ c hpc => ⟨_, _, (e_call2 rfl rfl Try.call17 (c.eg 6 rfl rfl hpc) (c.eg 7 rfl rfl hpc)), has_c (sspan (nth (ordF (someF xs)) ((j : Int)))) (lowF n 61) _⟩),
           Ob.det rfl rfl rfl (fun _ a_ _ _ c => r_or rfl (c.ev 1 rfl rfl) (fun h => (c.eg 8 rfl rfl h))),
           Ob.det rfl rfl rfl (fun _ a_ _ _ c => r_assign rfl (c.ev 9 rfl rfl)),
       trivial⟩ ?_
    intro a18 w18 τ18 st18 f18
    replace e6 := f18.old e6 (by kernel_rfl)
    replace e10 := f18.old e10 (by kernel_rfl)
    replace e11 := f18.old e11 (by kernel_rfl)
    have e12 : get a18 12 = (.bool ((((ordF (someF xs)).take j).any (fun s => hasB (sspan s) (lowF n 61))) || (hasB (sspan (nth (ordF (someF xs)) ((j : Int)))) (lowF n 61)))) := f18.v 10 rfl
    replace e14 := f18.old e14 (by kernel_rfl)
    replace e74 := f18.old e74 (by kernel_rfl)
    replace r1 : ownR SpanE 33 (ordF (someF xs)) (τ18 1) b5x6 w18 := f18.iown 1 rfl rfl
    clear f18
    show Code.wp _ _ _ a18 w18
    refine wp_seq ?_
    refine region_St (bf := [0, 1, 3, 7, 7, 31, 63, 127, 255, 7, 7, 1031, 3591, 7687, 16127, 32511, 65535, 131071]) (sp := [
        (det (Nw w) 87 (.int .i64 ((j : Int)))),
            (det (Nw w) 88 (.bool (decide (0 < (j : Int))))),
            (det (Nw w) 89 (.bool (decide (0 < (j : Int))))),
            (gdet (Nw w) 90 ((decide (0 < (j : Int))) = true) b5x6),
            (gdet (Nw w) 91 ((decide (0 < (j : Int))) = true) (.int .i64 ((j : Int)))),
            (gdet (Nw w) 92 ((decide (0 < (j : Int))) = true) (.pointer (some ((ptrOf b5x6).add (((j : Int) : Int).toNat * 2))))),
            (gdet (Nw w) 93 ((decide (0 < (j : Int))) = true) (.agg #[(.int .i64 ((nth (ordF (someF xs)) ((j : Int))).1)), (.int .i64 ((nth (ordF (someF xs)) ((j : Int))).2))])),
            (gdet (Nw w) 94 ((decide (0 < (j : Int))) = true) (.agg #[(.int .i64 ((sspan (nth (ordF (someF xs)) ((j : Int)))).1)), (.int .i64 ((sspan (nth (ordF (someF xs)) ((j : Int)))).2))])),
            (gdet (Nw w) 95 ((decide (0 < (j : Int))) = true) (.int .i64 ((sspan (nth (ordF (someF xs)) ((j : Int)))).1))),
            (gdet (Nw w) 96 ((decide (0 < (j : Int))) = true) b5x6),
            (gdet (Nw w) 97 ((decide (0 < (j : Int))) = true) (.int .i64 ((j : Int)))),
            (gdet (Nw w) 98 ((decide (0 < (j : Int))) = true) (.int .i64 ((j : Int) - 1))),
            (gdet (Nw w) 99 ((decide (0 < (j : Int))) = true) (.pointer (some ((ptrOf b5x6).add (((j : Int) - 1 : Int).toNat * 2))))),
            (gdet (Nw w) 100 ((decide (0 < (j : Int))) = true) (.agg #[(.int .i64 ((nth (ordF (someF xs)) ((j : Int) - 1)).1)), (.int .i64 ((nth (ordF (someF xs)) ((j : Int) - 1)).2))])),
            (gdet (Nw w) 101 ((decide (0 < (j : Int))) = true) (.agg #[(.int .i64 ((sspan (nth (ordF (someF xs)) ((j : Int) - 1))).1)), (.int .i64 ((sspan (nth (ordF (someF xs)) ((j : Int) - 1))).2))])),
            (gdet (Nw w) 102 ((decide (0 < (j : Int))) = true) (.int .i64 ((sspan (nth (ordF (someF xs)) ((j : Int) - 1))).2))),
            (gdet (Nw w) 103 ((decide (0 < (j : Int))) = true) (.bool (decide ((sspan (nth (ordF (someF xs)) ((j : Int)))).1 ≤ (sspan (nth (ordF (someF xs)) ((j : Int) - 1))).2)))),
            (det (Nw w) 104 (.bool (false)))])
      [(Ini.any (Nw w)), (iown SpanE 33 (Nw w) b5x6 (ordF (someF xs)))] mixed st18 (by kernel_rfl) ⟨trivial, r1, trivial⟩
      ⟨Ob.det rfl rfl rfl (fun _ a_ _ _ c => r_move rfl (c.eo e14 (by kernel_rfl))),
           Ob.det rfl rfl rfl (fun _ a_ _ _ c => r_gtr rfl (c.ev 0 rfl rfl) rfl),
           Ob.det rfl rfl rfl (fun _ a_ _ _ c => r_move rfl (c.ev 1 rfl rfl)),
           Ob.gdet rfl rfl rfl rfl (gi := 2) (tg := 89) rfl rfl Iff.rfl (fun _ a_ _ _ c hpc => r_move rfl (c.eo e6 (by kernel_rfl))),
           Ob.gdet rfl rfl rfl rfl (gi := 2) (tg := 89) rfl rfl Iff.rfl (fun _ a_ _ _ c hpc => r_move rfl (c.eo e14 (by kernel_rfl))),
           Ob.gdet rfl rfl rfl rfl (gi := 2) (tg := 89) rfl rfl Iff.rfl (fun _ a_ _ _ c hpc => r_indexAddr rfl Try.underlying22 Try.sizeOf33 (c.eg 3 rfl rfl hpc) r1.isSl (c.eg 4 rfl rfl hpc) (by have hq0 := hpc; (try simp only [Bool.and_eq_true, Bool.or_eq_true, decide_eq_true_eq, decide_eq_false_iff_not, Bool.not_eq_true', Bool.and_eq_false_iff, Bool.or_eq_false_iff, Bool.not_eq_false', Int.not_lt, Int.not_le, beq_iff_eq, selB] at hq0); omega) (by have hq0 := hpc; (try simp only [Bool.and_eq_true, Bool.or_eq_true, decide_eq_true_eq, decide_eq_false_iff_not, Bool.not_eq_true', Bool.and_eq_false_iff, Bool.or_eq_false_iff, Bool.not_eq_false', Int.not_lt, Int.not_le, beq_iff_eq, selB] at hq0); omega)),
           Ob.gdet rfl rfl rfl rfl (gi := 2) (tg := 89) rfl rfl Iff.rfl (fun _ a_ _ _ c hpc => r_loadN (vs := [(.int .i64 ((nth (ordF (someF xs)) ((j : Int))).1)), (.int .i64 ((nth (ordF (someF xs)) ((j : Int))).2))]) rfl Try.isAgg33 Try.sizeOf33 (c.eg 5 rfl rfl hpc) rfl (fun _ _ hj => ((c.iown 1 rfl rfl (by kernel_rfl)).1.sl).elem (nth_some (by have hq0 := hpc; (try simp only [Bool.and_eq_true, Bool.or_eq_true, decide_eq_true_eq, decide_eq_false_iff_not, Bool.not_eq_true', Bool.and_eq_false_iff, Bool.or_eq_false_iff, Bool.not_eq_false', Int.not_lt, Int.not_le, beq_iff_eq, selB] at hq0); omega) (by have hq0 := hpc; (try simp only [Bool.and_eq_true, Bool.or_eq_true, decide_eq_true_eq, decide_eq_false_iff_not, Bool.not_eq_true', Bool.and_eq_false_iff, Bool.or_eq_false_iff, Bool.not_eq_false', Int.not_lt, Int.not_le, beq_iff_eq, selB] at hq0); omega)) hj)),
           Ob.gcall rfl rfl rfl rfl (gi := 2) (tg := 89) rfl rfl Iff.rfl (fun _ a_ _ _ c hpc => ⟨_, _, (e_call1 rfl rfl Try.call15 (c.eg 6 rfl rfl hpc)), selSpan_c (nth (ordF (someF xs)) ((j : Int))) _⟩),
           Ob.gdet rfl rfl rfl rfl (gi := 2) (tg := 89) rfl rfl Iff.rfl (fun _ a_ _ _ c hpc => r_field rfl Try.underlying39 rfl Try.isAgg3 (c.eg 7 rfl rfl hpc) rfl),
           Ob.gdet rfl rfl rfl rfl (gi := 2) (tg := 89) rfl rfl Iff.rfl (fun _ a_ _ _ c hpc => r_move rfl (c.eo e6 (by kernel_rfl))),
           Ob.gdet rfl rfl rfl rfl (gi := 2) (tg := 89) rfl rfl Iff.rfl (fun _ a_ _ _ c hpc => r_move rfl (c.eo e14 (by kernel_rfl))),
           Ob.gdet rfl rfl rfl rfl (gi := 2) (tg := 89) rfl rfl Iff.rfl (fun _ a_ _ _ c hpc => r_sub rfl (c.eg 10 rfl rfl hpc) rfl (by have hq0 := hpc; (try simp only [Bool.and_eq_true, Bool.or_eq_true, decide_eq_true_eq, decide_eq_false_iff_not, Bool.not_eq_true', Bool.and_eq_false_iff, Bool.or_eq_false_iff, Bool.not_eq_false', Int.not_lt, Int.not_le, beq_iff_eq, selB] at hq0); omega)),
           Ob.gdet rfl rfl rfl rfl (gi := 2) (tg := 89) rfl rfl Iff.rfl (fun _ a_ _ _ c hpc => r_indexAddr rfl Try.underlying22 Try.sizeOf33 (c.eg 9 rfl rfl hpc) r1.isSl (c.eg 11 rfl rfl hpc) (by have hq0 := hpc; (try simp only [Bool.and_eq_true, Bool.or_eq_true, decide_eq_true_eq, decide_eq_false_iff_not, Bool.not_eq_true', Bool.and_eq_false_iff, Bool.or_eq_false_iff, Bool.not_eq_false', Int.not_lt, Int.not_le, beq_iff_eq, selB] at hq0); omega) (by have hq0 := hpc; (try simp only [Bool.and_eq_true, Bool.or_eq_true, decide_eq_true_eq, decide_eq_false_iff_not, Bool.not_eq_true', Bool.and_eq_false_iff, Bool.or_eq_false_iff, Bool.not_eq_false', Int.not_lt, Int.not_le, beq_iff_eq, selB] at hq0); omega)),
           Ob.gdet rfl rfl rfl rfl (gi := 2) (tg := 89) rfl rfl Iff.rfl (fun _ a_ _ _ c hpc => r_loadN (vs := [(.int .i64 ((nth (ordF (someF xs)) ((j : Int) - 1)).1)), (.int .i64 ((nth (ordF (someF xs)) ((j : Int) - 1)).2))]) rfl Try.isAgg33 Try.sizeOf33 (c.eg 12 rfl rfl hpc) rfl (fun _ _ hj => ((c.iown 1 rfl rfl (by kernel_rfl)).1.sl).elem (nth_some (by have hq0 := hpc; (try simp only [Bool.and_eq_true, Bool.or_eq_true, decide_eq_true_eq, decide_eq_false_iff_not, Bool.not_eq_true', Bool.and_eq_false_iff, Bool.or_eq_false_iff, Bool.not_eq_false', Int.not_lt, Int.not_le, beq_iff_eq, selB] at hq0); omega) (by have hq0 := hpc; (try simp only [Bool.and_eq_true, Bool.or_eq_true, decide_eq_true_eq, decide_eq_false_iff_not, Bool.not_eq_true', Bool.and_eq_false_iff, Bool.or_eq_false_iff, Bool.not_eq_false', Int.not_lt, Int.not_le, beq_iff_eq, selB] at hq0); omega)) hj)),
           Ob.gcall rfl rfl rfl rfl (gi := 2) (tg := 89) rfl rfl Iff.rfl (fun _ a_ _ _ c hpc => ⟨_, _, (e_call1 rfl rfl Try.call15 (c.eg 13 rfl rfl hpc)), selSpan_c (nth (ordF (someF xs)) ((j : Int) - 1)) _⟩),
           Ob.gdet rfl rfl rfl rfl (gi := 2) (tg := 89) rfl rfl Iff.rfl (fun _ a_ _ _ c hpc => r_field rfl Try.underlying39 rfl Try.isAgg3 (c.eg 14 rfl rfl hpc) rfl),
           Ob.gdet rfl rfl rfl rfl (gi := 2) (tg := 89) rfl rfl Iff.rfl (fun _ a_ _ _ c hpc => r_leq rfl (c.eg 8 rfl rfl hpc) (c.eg 15 rfl rfl hpc)),
           Ob.det rfl rfl rfl (fun _ a_ _ _ c => Runs.isB (b := (decide (0 < (j : Int))) && (decide ((sspan (nth (ordF (someF xs)) ((j : Int)))).1 ≤ (sspan (nth (ordF (someF xs)) ((j : Int) - 1))).2))) (r_and rfl (c.ev 2 rfl rfl) (fun h => (c.eg 16 rfl rfl h))) (by exact cover_ok (by omega))),
       trivial⟩ ?_
    intro a19 w19 τ19 st19 f19
    replace e6 := f19.old e6 (by kernel_rfl)
    replace e10 := f19.old e10 (by kernel_rfl)
    replace e11 := f19.old e11 (by kernel_rfl)
    replace e12 := f19.old e12 (by kernel_rfl)
    replace e14 := f19.old e14 (by kernel_rfl)
    replace e74 := f19.old e74 (by kernel_rfl)
    have e104 : get a19 104 = (.bool (false)) := f19.v 17 rfl
    replace r1 : ownR SpanE 33 (ordF (someF xs)) (τ19 1) b5x6 w19 := f19.iown 1 rfl rfl
    clear f19
    show Code.wp _ _ _ a19 w19
    refine wp_cond_false e104 ?_
    refine wp_skip ?_
    show _
    show Code.wp _ _ _ a19 w19
    refine region_St (bf := [0, 1, 3]) (sp := [
        (det (Nw w) 75 (.int .i64 ((j : Int)))),
            (det (Nw w) 76 (.int .i64 ((j : Int) + 1))),
            (det (Nw w) 14 (.int .i64 ((j : Int) + 1)))])
      [(Ini.any (Nw w)), (iown SpanE 33 (Nw w) b5x6 (ordF (someF xs)))] mixed st19 (by kernel_rfl) ⟨trivial, r1, trivial⟩
      ⟨Ob.det rfl rfl rfl (fun _ a_ _ _ c => r_move rfl (c.eo e14 (by kernel_rfl))),
           Ob.det rfl rfl rfl (fun _ a_ _ _ c => r_add rfl (c.ev 0 rfl rfl) rfl (by omega)),
           Ob.det rfl rfl rfl (fun _ a_ _ _ c => r_assign rfl (c.ev 1 rfl rfl)),
       trivial⟩ ?_
    intro a20 w20 τ20 st20 f20
    replace e6 := f20.old e6 (by kernel_rfl)
    replace e10 := f20.old e10 (by kernel_rfl)
    replace e11 := f20.old e11 (by kernel_rfl)
    replace e12 := f20.old e12 (by kernel_rfl)
    have e14 : get a20 14 = (.int .i64 ((j : Int) + 1)) := f20.v 2 rfl
    replace e74 := f20.old e74 (by kernel_rfl)
    replace e104 := f20.old e104 (by kernel_rfl)
    replace r1 : ownR SpanE 33 (ordF (someF xs)) (τ20 1) b5x6 w20 := f20.iown 1 rfl rfl
    clear f20
    refine ⟨⟨j + 1, τ20, ?_, st20, (e12.trans (congrArg _ (by rw [any_snoc (by omega)]))), (e14.trans (int_eq (by omega))), e6, e10, e11, r1⟩, ?_⟩
    · omega
    · simp only [m14, e14, intOf]; omega
  try simp only [Bool.and_eq_true, Bool.or_eq_true, decide_eq_true_eq, decide_eq_false_iff_not, Bool.not_eq_true', Bool.and_eq_false_iff, Bool.or_eq_false_iff, Bool.not_eq_false', Int.not_lt, Int.not_le, beq_iff_eq, selB] at hc4
  refine wp_exit ?_
  repeat (with_reducible refine then_exit ?_)
  refine exit_here ?_
  show Code.wp _ _ _ a17 w17
  refine wp_seq ?_
  refine region_St (bf := [0, 0, 3, 7, 15, 31, 63]) (sp := [
      (det (Nw w) 105 (.bool (((someF xs).take i).any (fun s => hasB (sspan s) (lowF n 61))))),
        (det (Nw w) 106 (.bool (((ordF (someF xs)).take j).any (fun s => hasB (sspan s) (lowF n 61))))),
        (det (Nw w) 107 (.bool ((((someF xs).take i).any (fun s => hasB (sspan s) (lowF n 61))) == (((ordF (someF xs)).take j).any (fun s => hasB (sspan s) (lowF n 61)))))),
        (det (Nw w) 108 (.bool ((((someF xs).take i).any (fun s => hasB (sspan s) (lowF n 61))) == (((ordF (someF xs)).take j).any (fun s => hasB (sspan s) (lowF n 61)))))),
        (gdet (Nw w) 109 (((((someF xs).take i).any (fun s => hasB (sspan s) (lowF n 61))) == (((ordF (someF xs)).take j).any (fun s => hasB (sspan s) (lowF n 61)))) = true) (.bool (true))),
        (det (Nw w) 110 (.bool (((((someF xs).take i).any (fun s => hasB (sspan s) (lowF n 61))) == (((ordF (someF xs)).take j).any (fun s => hasB (sspan s) (lowF n 61)))) && true))),
        (det (Nw w) 4 (.bool (((((someF xs).take i).any (fun s => hasB (sspan s) (lowF n 61))) == (((ordF (someF xs)).take j).any (fun s => hasB (sspan s) (lowF n 61)))) && true)))])
    [(Ini.any (Nw w)), (iown SpanE 33 (Nw w) b5x6 (ordF (someF xs)))] mixed st17 (by kernel_rfl) ⟨trivial, r1, trivial⟩
    ⟨Ob.det rfl rfl rfl (fun _ a_ _ _ c => r_move rfl (c.eo e11 (by kernel_rfl))),
       Ob.det rfl rfl rfl (fun _ a_ _ _ c => r_move rfl (c.eo e12 (by kernel_rfl))),
       Ob.det rfl rfl rfl (fun _ a_ _ _ c => r_beql rfl Try.underlying4 (c.ev 0 rfl rfl) (c.ev 1 rfl rfl)),
       Ob.det rfl rfl rfl (fun _ a_ _ _ c => r_move rfl (c.ev 2 rfl rfl)),
       Ob.gcall rfl rfl rfl rfl (gi := 3) (tg := 108) rfl rfl Iff.rfl (fun _ a_ _ _ c hpc => ⟨_, _, (e_call0 rfl rfl Try.call9), awake_c _⟩),
       Ob.det rfl rfl rfl (fun _ a_ _ _ c => r_and rfl (c.ev 3 rfl rfl) (fun h => (c.eg 4 rfl rfl h))),
       Ob.det rfl rfl rfl (fun _ a_ _ _ c => r_assign rfl (c.ev 5 rfl rfl)),
     trivial⟩ ?_
  intro a21 w21 τ21 st21 f21
  have e4 : get a21 4 = (.bool (((((someF xs).take i).any (fun s => hasB (sspan s) (lowF n 61))) == (((ordF (someF xs)).take j).any (fun s => hasB (sspan s) (lowF n 61)))) && true)) := f21.v 6 rfl
  clear f21
  show Code.wp _ _ _ a21 w21
  refine wp_ret ?_
  repeat (first | with_reducible refine then_ret ?_ | with_reducible refine block_ret ?_)
  refine ret1 (fn := Try.f8) rfl st21.defers e4 ?_
  exact ⟨congrArg _ (congrArg _ (show (((((someF xs).take i).any (fun s => hasB (sspan s) (lowF n 61))) == (((ordF (someF xs)).take j).any (fun s => hasB (sspan s) (lowF n 61)))) && true) = true from by rw [List.take_of_length_le (by omega), List.take_of_length_le (by omega), ord_any]; simp)), st21.ext0⟩
end B
end Go.Proofs.Ytjapbdofhbfmfaa
