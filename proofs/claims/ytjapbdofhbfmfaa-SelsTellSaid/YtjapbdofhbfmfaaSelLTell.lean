/-
  Walks, printed by a program (gen.py): SelLTell.
-/
import Derived.Test.YtjapbdofhbfmfaaSelQ
set_option linter.unusedSimpArgs false
set_option linter.unusedVariables false
namespace Go.Proofs.Ytjapbdofhbfmfaa
namespace B
open Go.RowKit
open Srt
set_option maxRecDepth 100000 in
theorem selsTell_c (n : Int) (v u : Value) (xs ns : List (Int × Int)) (w : World) (hS : SlT SpanE w v xs) (hU : SlT SpanE w u ns) : Calls Try.prog 3 #[(.int .i64 (n)), v, u] w (fun e w' => e = .returned (.bool (true)) ∧ Ext none' w w') := by
  refine enter (n := 69) Try.func3 rfl rfl (Nat.le_of_ble_eq_true rfl) ?_
  intro a0 τ0 ha st0
  have e0 : get a0 0 = (.int .i64 (n)) := ha 0 _ rfl
  have e1 : get a0 1 = v := ha 1 _ rfl
  have e2 : get a0 2 = u := ha 2 _ rfl
  clear ha
  have hle := hS.le
  have hle2 := hU.le
  refine wp_seq ?_
  refine region_St (bf := [0]) (sp := [
      (det (Nw w) 6 (.bool (false)))])
    [] mixed st0 (by kernel_rfl) trivial
    ⟨Ob.det rfl rfl rfl (fun _ a_ _ _ c => r_assign rfl rfl),
     trivial⟩ ?_
  intro a1 w1 τ1 st1 f1
  replace e0 := f1.old e0 (by kernel_rfl)
  replace e1 := f1.old e1 (by kernel_rfl)
  replace e2 := f1.old e2 (by kernel_rfl)
  have e6 : get a1 6 = (.bool (false)) := f1.v 0 rfl
  clear f1
  show Code.wp _ _ _ a1 w1
  refine wp_seq ?_
  refine wp_seq ?_
  refine region_St (bf := [0, 1, 3, 7, 15, 31, 63, 127]) (sp := [
      (det (Nw w) 15 v),
        (det (Nw w) 16 (.int .i64 ((xs.length : Int)))),
        (det (Nw w) 17 (.bool (decide (80 < (xs.length : Int))))),
        (det (Nw w) 18 (.bool (decide (80 < (xs.length : Int))))),
        (gdet (Nw w) 19 ((decide (80 < (xs.length : Int))) = false) u),
        (gdet (Nw w) 20 ((decide (80 < (xs.length : Int))) = false) (.int .i64 ((ns.length : Int)))),
        (gdet (Nw w) 21 ((decide (80 < (xs.length : Int))) = false) (.bool (decide (80 < (ns.length : Int))))),
        (det (Nw w) 22 (.bool ((decide (80 < (xs.length : Int))) || (decide (80 < (ns.length : Int))))))])
    [] mixed st1 (by kernel_rfl) trivial
    ⟨Ob.det rfl rfl rfl (fun _ a_ _ _ c => r_move rfl (c.eo e1 (by kernel_rfl))),
       Ob.det rfl rfl rfl (fun _ a_ _ _ c => r_len rfl Try.underlying22 (c.ev 0 rfl rfl) hS.sl),
       Ob.det rfl rfl rfl (fun _ a_ _ _ c => r_gtr rfl (c.ev 1 rfl rfl) rfl),
       Ob.det rfl rfl rfl (fun _ a_ _ _ c => r_move rfl (c.ev 2 rfl rfl)),
       Ob.gdet rfl rfl rfl rfl (gi := 3) (tg := 18) rfl rfl Iff.rfl (fun _ a_ _ _ c hpc => r_move rfl (c.eo e2 (by kernel_rfl))),
       Ob.gdet rfl rfl rfl rfl (gi := 3) (tg := 18) rfl rfl Iff.rfl (fun _ a_ _ _ c hpc => r_len rfl Try.underlying23 (c.eg 4 rfl rfl hpc) hU.sl),
       Ob.gdet rfl rfl rfl rfl (gi := 3) (tg := 18) rfl rfl Iff.rfl (fun _ a_ _ _ c hpc => r_gtr rfl (c.eg 5 rfl rfl hpc) rfl),
       Ob.det rfl rfl rfl (fun _ a_ _ _ c => r_or rfl (c.ev 3 rfl rfl) (fun h => (c.eg 6 rfl rfl h))),
     trivial⟩ ?_
  intro a2 w2 τ2 st2 f2
  replace e0 := f2.old e0 (by kernel_rfl)
  replace e1 := f2.old e1 (by kernel_rfl)
  replace e2 := f2.old e2 (by kernel_rfl)
  replace e6 := f2.old e6 (by kernel_rfl)
  have e22 : get a2 22 = (.bool ((decide (80 < (xs.length : Int))) || (decide (80 < (ns.length : Int))))) := f2.v 7 rfl
  clear f2
  show Code.wp _ _ _ a2 w2
  refine wp_cond_split (t := (decide (80 < (xs.length : Int))) || (decide (80 < (ns.length : Int)))) e22 (fun hc1 => ?_) (fun hc1 => ?_)
  · try simp only [Bool.and_eq_true, Bool.or_eq_true, decide_eq_true_eq, decide_eq_false_iff_not, Bool.not_eq_true', Bool.and_eq_false_iff, Bool.or_eq_false_iff, Bool.not_eq_false', Int.not_lt, Int.not_le, beq_iff_eq, selB] at hc1
    refine wp_seq ?_
    refine region_St (bf := [0, 1]) (sp := [
        (det (Nw w) 23 (.bool (true))),
            (det (Nw w) 6 (.bool (true)))])
      [] mixed st2 (by kernel_rfl) trivial
      ⟨Ob.call rfl rfl rfl (fun _ a_ _ _ c => ⟨_, _, (e_call0 rfl rfl Try.call9), awake_c _⟩),
           Ob.det rfl rfl rfl (fun _ a_ _ _ c => r_assign rfl (c.ev 0 rfl rfl)),
       trivial⟩ ?_
    intro a3 w3 τ3 st3 f3
    replace e0 := f3.old e0 (by kernel_rfl)
    replace e1 := f3.old e1 (by kernel_rfl)
    replace e2 := f3.old e2 (by kernel_rfl)
    have e6 : get a3 6 = (.bool (true)) := f3.v 1 rfl
    clear f3
    show Code.wp _ _ _ a3 w3
    refine wp_ret ?_
    repeat (first | with_reducible refine then_ret ?_ | with_reducible refine block_ret ?_)
    refine ret1 (fn := Try.f3) rfl st3.defers e6 ?_
    exact ⟨rfl, st3.ext0⟩
  try simp only [Bool.and_eq_true, Bool.or_eq_true, decide_eq_true_eq, decide_eq_false_iff_not, Bool.not_eq_true', Bool.and_eq_false_iff, Bool.or_eq_false_iff, Bool.not_eq_false', Int.not_lt, Int.not_le, beq_iff_eq, selB] at hc1
  refine wp_skip ?_
  show Code.wp _ _ _ a2 w2
  refine wp_seq ?_
  refine region_St (bf := [0, 0, 3, 7, 15, 15, 31, 127]) (sp := [
      (det (Nw w) 25 (.int .i64 (n))),
        (det (Nw w) 26 v),
        (tup SpanE 33 (Nw w) 0 27 (normF n xs) (.int .i64 (normE n xs))),
        (tup SpanE 33 (Nw w) 0 24 (normF n xs) (.int .i64 (normE n xs))),
        (own SpanE 33 (Nw w) 0 28 (normF n xs)),
        (det (Nw w) 29 (.int .i64 (normE n xs))),
        (own SpanE 33 (Nw w) 0 7 (normF n xs)),
        (det (Nw w) 8 (.int .i64 (normE n xs)))])
    [] mixed st2 (by kernel_rfl) trivial
    ⟨Ob.det rfl rfl rfl (fun _ a_ _ _ c => r_move rfl (c.eo e0 (by kernel_rfl))),
       Ob.det rfl rfl rfl (fun _ a_ _ _ c => r_move rfl (c.eo e1 (by kernel_rfl))),
       Ob.callTup rfl rfl rfl (fun _ a_ _ _ c => ⟨_, _, (e_call2 rfl rfl Try.call10 (c.ev 0 rfl rfl) (c.ev 1 rfl rfl)), norm_c n v xs _ (hS.at (st2.ext.trans c.J.ext))⟩),
       Ob.moveT (t0 := 27) rfl rfl rfl rfl rfl (.inl rfl) (fun _ _ _ _ c => ⟨c.rtup 2 rfl rfl (by kernel_rfl), rfl⟩),
       Ob.part0 (t0 := 24) (k := (.int .i64 (normE n xs))) rfl rfl rfl rfl (fun _ _ _ _ c => c.rtup 3 rfl rfl (by kernel_rfl)),
       Ob.det rfl rfl rfl (fun _ a_ _ _ c => c.part1 3 rfl rfl rfl),
       Ob.moveT (t0 := 28) rfl rfl rfl rfl rfl (.inr rfl) (fun _ _ _ _ c => ⟨c.rown 4 rfl rfl (by kernel_rfl), rfl⟩),
       Ob.det rfl rfl rfl (fun _ a_ _ _ c => r_assign rfl (c.ev 5 rfl rfl)),
     trivial⟩ ?_
  intro a4 w4 τ4 st4 f4
  obtain ⟨b4x7, e7⟩ : ∃ b, get a4 7 = b := ⟨_, rfl⟩
  replace e0 := f4.old e0 (by kernel_rfl)
  replace e1 := f4.old e1 (by kernel_rfl)
  replace e2 := f4.old e2 (by kernel_rfl)
  replace e6 := f4.old e6 (by kernel_rfl)
  have e8 : get a4 8 = (.int .i64 (normE n xs)) := f4.v 7 rfl
  have r0 : ownR SpanE 33 (normF n xs) (τ4 0) b4x7 w4 := f4.rown 6 rfl rfl e7
  clear f4
  show Code.wp _ _ _ a4 w4
  refine wp_seq ?_
  refine region_St (bf := [0, 0, 3, 7, 15, 15, 31, 127]) (sp := [
      (det (Nw w) 31 (.int .i64 (n))),
        (det (Nw w) 32 v),
        (tup SpanE 33 (Nw w) 1 33 (normF n xs) (.int .i64 (normE n xs))),
        (tup SpanE 33 (Nw w) 1 30 (normF n xs) (.int .i64 (normE n xs))),
        (own SpanE 33 (Nw w) 1 34 (normF n xs)),
        (det (Nw w) 35 (.int .i64 (normE n xs))),
        (own SpanE 33 (Nw w) 1 9 (normF n xs)),
        (det (Nw w) 10 (.int .i64 (normE n xs)))])
    [(iown SpanE 33 (Nw w) b4x7 (normF n xs))] mixed st4 (by kernel_rfl) ⟨r0, trivial⟩
    ⟨Ob.det rfl rfl rfl (fun _ a_ _ _ c => r_move rfl (c.eo e0 (by kernel_rfl))),
       Ob.det rfl rfl rfl (fun _ a_ _ _ c => r_move rfl (c.eo e1 (by kernel_rfl))),
       Ob.callTup rfl rfl rfl (fun _ a_ _ _ c => ⟨_, _, (e_call2 rfl rfl Try.call11 (c.ev 0 rfl rfl) (c.ev 1 rfl rfl)), refNorm_c n v xs _ (hS.at (st4.ext.trans c.J.ext))⟩),
       Ob.moveT (t0 := 33) rfl rfl rfl rfl rfl (.inl rfl) (fun _ _ _ _ c => ⟨c.rtup 2 rfl rfl (by kernel_rfl), rfl⟩),
       Ob.part0 (t0 := 30) (k := (.int .i64 (normE n xs))) rfl rfl rfl rfl (fun _ _ _ _ c => c.rtup 3 rfl rfl (by kernel_rfl)),
       Ob.det rfl rfl rfl (fun _ a_ _ _ c => c.part1 3 rfl rfl rfl),
       Ob.moveT (t0 := 34) rfl rfl rfl rfl rfl (.inr rfl) (fun _ _ _ _ c => ⟨c.rown 4 rfl rfl (by kernel_rfl), rfl⟩),
       Ob.det rfl rfl rfl (fun _ a_ _ _ c => r_assign rfl (c.ev 5 rfl rfl)),
     trivial⟩ ?_
  intro a5 w5 τ5 st5 f5
  obtain ⟨b5x9, e9⟩ : ∃ b, get a5 9 = b := ⟨_, rfl⟩
  replace e2 := f5.old e2 (by kernel_rfl)
  replace e6 := f5.old e6 (by kernel_rfl)
  replace e7 := f5.old e7 (by kernel_rfl)
  replace e8 := f5.old e8 (by kernel_rfl)
  have e10 : get a5 10 = (.int .i64 (normE n xs)) := f5.v 7 rfl
  replace r0 : ownR SpanE 33 (normF n xs) (τ5 0) b4x7 w5 := f5.iown 0 rfl rfl
  have r1 : ownR SpanE 33 (normF n xs) (τ5 1) b5x9 w5 := f5.rown 6 rfl rfl e9
  clear f5
  show Code.wp _ _ _ a5 w5
  refine wp_seq ?_
  refine region_St (bf := [0, 1, 3, 7, 15, 15, 31, 127]) (sp := [
      (det (Nw w) 37 u),
        (own SpanE 33 (Nw w) 2 38 (someF ns)),
        (tup SpanE 33 (Nw w) 3 39 (normF 60 (someF ns)) (.int .i64 (normE 60 (someF ns)))),
        (tup SpanE 33 (Nw w) 3 36 (normF 60 (someF ns)) (.int .i64 (normE 60 (someF ns)))),
        (own SpanE 33 (Nw w) 3 40 (normF 60 (someF ns))),
        (det (Nw w) 41 (.int .i64 (normE 60 (someF ns)))),
        (own SpanE 33 (Nw w) 3 11 (normF 60 (someF ns))),
        (det (Nw w) 12 (.int .i64 (normE 60 (someF ns))))])
    [(iown SpanE 33 (Nw w) b4x7 (normF n xs)), (iown SpanE 33 (Nw w) b5x9 (normF n xs))] mixed st5 (by kernel_rfl) ⟨r0, r1, trivial⟩
    ⟨Ob.det rfl rfl rfl (fun _ a_ _ _ c => r_move rfl (c.eo e2 (by kernel_rfl))),
       Ob.callOwn rfl rfl rfl (fun _ a_ _ _ c => ⟨_, _, (e_call1 rfl rfl Try.call12 (c.ev 0 rfl rfl)), some_c u ns _ (hU.at (st5.ext.trans c.J.ext)) (by omega)⟩),
       Ob.callTup rfl rfl rfl (fun _ a_ _ _ c => ⟨_, _, (e_call2 rfl rfl Try.call10 rfl (eval_tmp _ 38)), norm_c 60 _ (someF ns) _ (c.rown 1 rfl rfl (by kernel_rfl)).1.sl⟩),
       Ob.moveT (t0 := 39) rfl rfl rfl rfl rfl (.inl rfl) (fun _ _ _ _ c => ⟨c.rtup 2 rfl rfl (by kernel_rfl), rfl⟩),
       Ob.part0 (t0 := 36) (k := (.int .i64 (normE 60 (someF ns)))) rfl rfl rfl rfl (fun _ _ _ _ c => c.rtup 3 rfl rfl (by kernel_rfl)),
       Ob.det rfl rfl rfl (fun _ a_ _ _ c => c.part1 3 rfl rfl rfl),
       Ob.moveT (t0 := 40) rfl rfl rfl rfl rfl (.inr rfl) (fun _ _ _ _ c => ⟨c.rown 4 rfl rfl (by kernel_rfl), rfl⟩),
       Ob.det rfl rfl rfl (fun _ a_ _ _ c => r_assign rfl (c.ev 5 rfl rfl)),
     trivial⟩ ?_
  intro a6 w6 τ6 st6 f6
  obtain ⟨b6x38, e38⟩ : ∃ b, get a6 38 = b := ⟨_, rfl⟩
  obtain ⟨b6x11, e11⟩ : ∃ b, get a6 11 = b := ⟨_, rfl⟩
  replace e2 := f6.old e2 (by kernel_rfl)
  replace e6 := f6.old e6 (by kernel_rfl)
  replace e7 := f6.old e7 (by kernel_rfl)
  replace e8 := f6.old e8 (by kernel_rfl)
  replace e9 := f6.old e9 (by kernel_rfl)
  replace e10 := f6.old e10 (by kernel_rfl)
  have e12 : get a6 12 = (.int .i64 (normE 60 (someF ns))) := f6.v 7 rfl
  replace r0 : ownR SpanE 33 (normF n xs) (τ6 0) b4x7 w6 := f6.iown 0 rfl rfl
  replace r1 : ownR SpanE 33 (normF n xs) (τ6 1) b5x9 w6 := f6.iown 1 rfl rfl
  have r3 : ownR SpanE 33 (normF 60 (someF ns)) (τ6 3) b6x11 w6 := f6.rown 6 rfl rfl e11
  clear f6
  show Code.wp _ _ _ a6 w6
  refine wp_seq ?_
  refine region_St (bf := [0, 1, 3, 7, 15, 15, 31, 127]) (sp := [
      (det (Nw w) 43 u),
        (own SpanE 33 (Nw w) 2 44 (someF ns)),
        (tup SpanE 33 (Nw w) 4 45 (normF 60 (someF ns)) (.int .i64 (normE 60 (someF ns)))),
        (tup SpanE 33 (Nw w) 4 42 (normF 60 (someF ns)) (.int .i64 (normE 60 (someF ns)))),
        (own SpanE 33 (Nw w) 4 46 (normF 60 (someF ns))),
        (det (Nw w) 47 (.int .i64 (normE 60 (someF ns)))),
        (own SpanE 33 (Nw w) 4 13 (normF 60 (someF ns))),
        (det (Nw w) 14 (.int .i64 (normE 60 (someF ns))))])
    [(iown SpanE 33 (Nw w) b4x7 (normF n xs)), (iown SpanE 33 (Nw w) b5x9 (normF n xs)), (Ini.any (Nw w)), (iown SpanE 33 (Nw w) b6x11 (normF 60 (someF ns)))] mixed st6 (by kernel_rfl) ⟨r0, r1, trivial, r3, trivial⟩
    ⟨Ob.det rfl rfl rfl (fun _ a_ _ _ c => r_move rfl (c.eo e2 (by kernel_rfl))),
       Ob.callOwn rfl rfl rfl (fun _ a_ _ _ c => ⟨_, _, (e_call1 rfl rfl Try.call12 (c.ev 0 rfl rfl)), some_c u ns _ (hU.at (st6.ext.trans c.J.ext)) (by omega)⟩),
       Ob.callTup rfl rfl rfl (fun _ a_ _ _ c => ⟨_, _, (e_call2 rfl rfl Try.call11 rfl (eval_tmp _ 44)), refNorm_c 60 _ (someF ns) _ (c.rown 1 rfl rfl (by kernel_rfl)).1.sl⟩),
       Ob.moveT (t0 := 45) rfl rfl rfl rfl rfl (.inl rfl) (fun _ _ _ _ c => ⟨c.rtup 2 rfl rfl (by kernel_rfl), rfl⟩),
       Ob.part0 (t0 := 42) (k := (.int .i64 (normE 60 (someF ns)))) rfl rfl rfl rfl (fun _ _ _ _ c => c.rtup 3 rfl rfl (by kernel_rfl)),
       Ob.det rfl rfl rfl (fun _ a_ _ _ c => c.part1 3 rfl rfl rfl),
       Ob.moveT (t0 := 46) rfl rfl rfl rfl rfl (.inr rfl) (fun _ _ _ _ c => ⟨c.rown 4 rfl rfl (by kernel_rfl), rfl⟩),
       Ob.det rfl rfl rfl (fun _ a_ _ _ c => r_assign rfl (c.ev 5 rfl rfl)),
     trivial⟩ ?_
  intro a7 w7 τ7 st7 f7
  obtain ⟨b7x44, e44⟩ : ∃ b, get a7 44 = b := ⟨_, rfl⟩
  obtain ⟨b7x13, e13⟩ : ∃ b, get a7 13 = b := ⟨_, rfl⟩
  replace e6 := f7.old e6 (by kernel_rfl)
  replace e7 := f7.old e7 (by kernel_rfl)
  replace e8 := f7.old e8 (by kernel_rfl)
  replace e9 := f7.old e9 (by kernel_rfl)
  replace e10 := f7.old e10 (by kernel_rfl)
  replace e11 := f7.old e11 (by kernel_rfl)
  replace e12 := f7.old e12 (by kernel_rfl)
  have e14 : get a7 14 = (.int .i64 (normE 60 (someF ns))) := f7.v 7 rfl
  replace r0 : ownR SpanE 33 (normF n xs) (τ7 0) b4x7 w7 := f7.iown 0 rfl rfl
  replace r1 : ownR SpanE 33 (normF n xs) (τ7 1) b5x9 w7 := f7.iown 1 rfl rfl
  replace r3 : ownR SpanE 33 (normF 60 (someF ns)) (τ7 3) b6x11 w7 := f7.iown 3 rfl rfl
  have r4 : ownR SpanE 33 (normF 60 (someF ns)) (τ7 4) b7x13 w7 := f7.rown 6 rfl rfl e13
  clear f7
  show Code.wp _ _ _ a7 w7
  refine wp_seq ?_
  refine region_St (bf := [0, 0, 3, 7, 15, 15, 63, 127, 255, 511, 511, 2047, 4095, 8191, 16383, 16383, 65535, 131071, 262143, 524287, 1048575, 2097151]) (sp := [
      (det (Nw w) 48 b4x7),
        (det (Nw w) 49 b5x9),
        (det (Nw w) 50 (.bool (decide (normF n xs = normF n xs)))),
        (det (Nw w) 51 (.bool (decide (normF n xs = normF n xs)))),
        (gdet (Nw w) 52 ((decide (normF n xs = normF n xs)) = true) (.int .i64 (normE n xs))),
        (gdet (Nw w) 53 ((decide (normF n xs = normF n xs)) = true) (.int .i64 (normE n xs))),
        (gdet (Nw w) 54 ((decide (normF n xs = normF n xs)) = true) (.bool (decide (normE n xs = normE n xs)))),
        (det (Nw w) 55 (.bool ((decide (normF n xs = normF n xs)) && (decide (normE n xs = normE n xs))))),
        (det (Nw w) 56 (.bool ((decide (normF n xs = normF n xs)) && (decide (normE n xs = normE n xs))))),
        (gdet (Nw w) 57 (((decide (normF n xs = normF n xs)) && (decide (normE n xs = normE n xs))) = true) b6x11),
        (gdet (Nw w) 58 (((decide (normF n xs = normF n xs)) && (decide (normE n xs = normE n xs))) = true) b7x13),
        (gdet (Nw w) 59 (((decide (normF n xs = normF n xs)) && (decide (normE n xs = normE n xs))) = true) (.bool (decide (normF 60 (someF ns) = normF 60 (someF ns))))),
        (det (Nw w) 60 (.bool (((decide (normF n xs = normF n xs)) && (decide (normE n xs = normE n xs))) && (decide (normF 60 (someF ns) = normF 60 (someF ns)))))),
        (det (Nw w) 61 (.bool (((decide (normF n xs = normF n xs)) && (decide (normE n xs = normE n xs))) && (decide (normF 60 (someF ns) = normF 60 (someF ns)))))),
        (gdet (Nw w) 62 ((((decide (normF n xs = normF n xs)) && (decide (normE n xs = normE n xs))) && (decide (normF 60 (someF ns) = normF 60 (someF ns)))) = true) (.int .i64 (normE 60 (someF ns)))),
        (gdet (Nw w) 63 ((((decide (normF n xs = normF n xs)) && (decide (normE n xs = normE n xs))) && (decide (normF 60 (someF ns) = normF 60 (someF ns)))) = true) (.int .i64 (normE 60 (someF ns)))),
        (gdet (Nw w) 64 ((((decide (normF n xs = normF n xs)) && (decide (normE n xs = normE n xs))) && (decide (normF 60 (someF ns) = normF 60 (someF ns)))) = true) (.bool (decide (normE 60 (someF ns) = normE 60 (someF ns))))),
        (det (Nw w) 65 (.bool ((((decide (normF n xs = normF n xs)) && (decide (normE n xs = normE n xs))) && (decide (normF 60 (someF ns) = normF 60 (someF ns)))) && (decide (normE 60 (someF ns) = normE 60 (someF ns)))))),
        (det (Nw w) 66 (.bool ((((decide (normF n xs = normF n xs)) && (decide (normE n xs = normE n xs))) && (decide (normF 60 (someF ns) = normF 60 (someF ns)))) && (decide (normE 60 (someF ns) = normE 60 (someF ns)))))),
        (gdet (Nw w) 67 (((((decide (normF n xs = normF n xs)) && (decide (normE n xs = normE n xs))) && (decide (normF 60 (someF ns) = normF 60 (someF ns)))) && (decide (normE 60 (someF ns) = normE 60 (someF ns)))) = true) (.bool (true))),
        (det (Nw w) 68 (.bool (((((decide (normF n xs = normF n xs)) && (decide (normE n xs = normE n xs))) && (decide (normF 60 (someF ns) = normF 60 (someF ns)))) && (decide (normE 60 (someF ns) = normE 60 (someF ns)))) && true))),
        (det (Nw w) 6 (.bool (((((decide (normF n xs = normF n xs)) && (decide (normE n xs = normE n xs))) && (decide (normF 60 (someF ns) = normF 60 (someF ns)))) && (decide (normE 60 (someF ns) = normE 60 (someF ns)))) && true)))])
    [(iown SpanE 33 (Nw w) b4x7 (normF n xs)), (iown SpanE 33 (Nw w) b5x9 (normF n xs)), (Ini.any (Nw w)), (iown SpanE 33 (Nw w) b6x11 (normF 60 (someF ns))), (iown SpanE 33 (Nw w) b7x13 (normF 60 (someF ns)))] mixed st7 (by kernel_rfl) ⟨r0, r1, trivial, r3, r4, trivial⟩
    ⟨Ob.det rfl rfl rfl (fun _ a_ _ _ c => r_move rfl (c.eo e7 (by kernel_rfl))),
       Ob.det rfl rfl rfl (fun _ a_ _ _ c => r_move rfl (c.eo e9 (by kernel_rfl))),
       Ob.call rfl rfl rfl (fun _ a_ _ _ c => ⟨_, _, (e_call2 rfl rfl Try.call13 (c.ev 0 rfl rfl) (c.ev 1 rfl rfl)), selsEq_c b4x7 b5x9 (normF n xs) (normF n xs) _ (c.iown 0 rfl rfl (by kernel_rfl)).1.sl (c.iown 1 rfl rfl (by kernel_rfl)).1.sl⟩),
       Ob.det rfl rfl rfl (fun _ a_ _ _ c => r_move rfl (c.ev 2 rfl rfl)),
       Ob.gdet rfl rfl rfl rfl (gi := 3) (tg := 51) rfl rfl Iff.rfl (fun _ a_ _ _ c hpc => r_move rfl (c.eo e8 (by kernel_rfl))),
       Ob.gdet rfl rfl rfl rfl (gi := 3) (tg := 51) rfl rfl Iff.rfl (fun _ a_ _ _ c hpc => r_move rfl (c.eo e10 (by kernel_rfl))),
       Ob.gdet rfl rfl rfl rfl (gi := 3) (tg := 51) rfl rfl Iff.rfl (fun _ a_ _ _ c hpc => r_eql rfl (c.eg 4 rfl rfl hpc) (c.eg 5 rfl rfl hpc)),
       Ob.det rfl rfl rfl (fun _ a_ _ _ c => r_and rfl (c.ev 3 rfl rfl) (fun h => (c.eg 6 rfl rfl h))),
       Ob.det rfl rfl rfl (fun _ a_ _ _ c => r_move rfl (c.ev 7 rfl rfl)),
       Ob.gdet rfl rfl rfl rfl (gi := 8) (tg := 56) rfl rfl Iff.rfl (fun _ a_ _ _ c hpc => r_move rfl (c.eo e11 (by kernel_rfl))),
       Ob.gdet rfl rfl rfl rfl (gi := 8) (tg := 56) rfl rfl Iff.rfl (fun _ a_ _ _ c hpc => r_move rfl (c.eo e13 (by kernel_rfl))),
       Ob.gcall rfl rfl rfl rfl (gi := 8) (tg := 56) rfl rfl Iff.rfl (fun _ a_ _ _ c hpc => ⟨_, _, (e_call2 rfl rfl Try.call13 (c.eg 9 rfl rfl hpc) (c.eg 10 rfl rfl hpc)), selsEq_c b6x11 b7x13 (normF 60 (someF ns)) (normF 60 (someF ns)) _ (c.iown 3 rfl rfl (by kernel_rfl)).1.sl (c.iown 4 rfl rfl (by kernel_rfl)).1.sl⟩),
       Ob.det rfl rfl rfl (fun _ a_ _ _ c => r_and rfl (c.ev 8 rfl rfl) (fun h => (c.eg 11 rfl rfl h))),
       Ob.det rfl rfl rfl (fun _ a_ _ _ c => r_move rfl (c.ev 12 rfl rfl)),
       Ob.gdet rfl rfl rfl rfl (gi := 13) (tg := 61) rfl rfl Iff.rfl (fun _ a_ _ _ c hpc => r_move rfl (c.eo e12 (by kernel_rfl))),
       Ob.gdet rfl rfl rfl rfl (gi := 13) (tg := 61) rfl rfl Iff.rfl (fun _ a_ _ _ c hpc => r_move rfl (c.eo e14 (by kernel_rfl))),
       Ob.gdet rfl rfl rfl rfl (gi := 13) (tg := 61) rfl rfl Iff.rfl (fun _ a_ _ _ c hpc => r_eql rfl (c.eg 14 rfl rfl hpc) (c.eg 15 rfl rfl hpc)),
       Ob.det rfl rfl rfl (fun _ a_ _ _ c => r_and rfl (c.ev 13 rfl rfl) (fun h => (c.eg 16 rfl rfl h))),
       Ob.det rfl rfl rfl (fun _ a_ _ _ c => r_move rfl (c.ev 17 rfl rfl)),
       Ob.gcall rfl rfl rfl rfl (gi := 18) (tg := 66) rfl rfl Iff.rfl (fun _ a_ _ _ c hpc => ⟨_, _, (e_call0 rfl rfl Try.call9), awake_c _⟩),
       Ob.det rfl rfl rfl (fun _ a_ _ _ c => r_and rfl (c.ev 18 rfl rfl) (fun h => (c.eg 19 rfl rfl h))),
       Ob.det rfl rfl rfl (fun _ a_ _ _ c => r_assign rfl (c.ev 20 rfl rfl)),
     trivial⟩ ?_
  intro a8 w8 τ8 st8 f8
  have e6 : get a8 6 = (.bool (((((decide (normF n xs = normF n xs)) && (decide (normE n xs = normE n xs))) && (decide (normF 60 (someF ns) = normF 60 (someF ns)))) && (decide (normE 60 (someF ns) = normE 60 (someF ns)))) && true)) := f8.v 21 rfl
  clear f8
  show Code.wp _ _ _ a8 w8
  refine wp_ret ?_
  repeat (first | with_reducible refine then_ret ?_ | with_reducible refine block_ret ?_)
  refine ret1 (fn := Try.f3) rfl st8.defers e6 ?_
  exact ⟨congrArg _ (congrArg _ (show (((((decide (normF n xs = normF n xs)) && (decide (normE n xs = normE n xs))) && (decide (normF 60 (someF ns) = normF 60 (someF ns)))) && (decide (normE 60 (someF ns) = normE 60 (someF ns)))) && true) = true from by simp)), st8.ext0⟩
end B
end Go.Proofs.Ytjapbdofhbfmfaa
