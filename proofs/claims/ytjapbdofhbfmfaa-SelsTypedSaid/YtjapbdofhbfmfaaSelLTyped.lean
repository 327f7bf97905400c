/-
  Walks, printed by a program (gen.py): SelLTyped.
-/
import Derived.Test.YtjapbdofhbfmfaaSelQ
set_option linter.unusedSimpArgs false
set_option linter.unusedVariables false
namespace Go.Proofs.Ytjapbdofhbfmfaa
namespace B
open Go.RowKit
open Srt
set_option maxRecDepth 100000 in
theorem selsTyped_c (v : Value) (xs : List Int) (t : ByteArray) (w : World) (hS : SlT IntE w v xs) : Calls Try.prog 5 #[v, (.string (t))] w (fun e w' => e = .returned (.bool (true)) ∧ Ext none' w w') := by
  refine enter (n := 115) Try.func5 rfl rfl (Nat.le_of_ble_eq_true rfl) ?_
  intro a0 τ0 ha st0
  have e0 : get a0 0 = v := ha 0 _ rfl
  have e1 : get a0 1 = (.string (t)) := ha 1 _ rfl
  clear ha
  have hle := hS.le
  refine wp_seq ?_
  refine region_St (bf := [0]) (sp := [
      (det (Nw w) 4 (.bool (false)))])
    [] mixed st0 (by kernel_rfl) trivial
    ⟨Ob.det rfl rfl rfl (fun _ a_ _ _ c => r_assign rfl rfl),
     trivial⟩ ?_
  intro a1 w1 τ1 st1 f1
  replace e0 := f1.old e0 (by kernel_rfl)
  replace e1 := f1.old e1 (by kernel_rfl)
  have e4 : get a1 4 = (.bool (false)) := f1.v 0 rfl
  clear f1
  show Code.wp _ _ _ a1 w1
  refine wp_seq ?_
  refine wp_seq ?_
  refine region_St (bf := [0, 1, 3, 7, 15, 31, 63, 127, 255, 511, 1023, 2047, 4095]) (sp := [
      (det (Nw w) 13 v),
        (det (Nw w) 14 (.int .i64 ((xs.length : Int)))),
        (det (Nw w) 15 (.bool (decide ((xs.length : Int) = 0)))),
        (det (Nw w) 16 (.bool (decide ((xs.length : Int) = 0)))),
        (gdet (Nw w) 17 ((decide ((xs.length : Int) = 0)) = false) v),
        (gdet (Nw w) 18 ((decide ((xs.length : Int) = 0)) = false) (.int .i64 ((xs.length : Int)))),
        (gdet (Nw w) 19 ((decide ((xs.length : Int) = 0)) = false) (.bool (decide (40 < (xs.length : Int))))),
        (det (Nw w) 20 (.bool ((decide ((xs.length : Int) = 0)) || (decide (40 < (xs.length : Int)))))),
        (det (Nw w) 21 (.bool ((decide ((xs.length : Int) = 0)) || (decide (40 < (xs.length : Int)))))),
        (gdet (Nw w) 22 (((decide ((xs.length : Int) = 0)) || (decide (40 < (xs.length : Int)))) = false) (.string (t))),
        (gdet (Nw w) 23 (((decide ((xs.length : Int) = 0)) || (decide (40 < (xs.length : Int)))) = false) (.int .i64 ((t.size : Int)))),
        (gdet (Nw w) 24 (((decide ((xs.length : Int) = 0)) || (decide (40 < (xs.length : Int)))) = false) (.bool (decide (30 < (t.size : Int))))),
        (det (Nw w) 25 (.bool (((decide ((xs.length : Int) = 0)) || (decide (40 < (xs.length : Int)))) || (decide (30 < (t.size : Int))))))])
    [] mixed st1 (by kernel_rfl) trivial
    ⟨Ob.det rfl rfl rfl (fun _ a_ _ _ c => r_move rfl (c.eo e0 (by kernel_rfl))),
       Ob.det rfl rfl rfl (fun _ a_ _ _ c => r_len rfl Try.underlying35 (c.ev 0 rfl rfl) hS.sl),
       Ob.det rfl rfl rfl (fun _ a_ _ _ c => r_eql rfl (c.ev 1 rfl rfl) rfl),
       Ob.det rfl rfl rfl (fun _ a_ _ _ c => r_move rfl (c.ev 2 rfl rfl)),
       Ob.gdet rfl rfl rfl rfl (gi := 3) (tg := 16) rfl rfl Iff.rfl (fun _ a_ _ _ c hpc => r_move rfl (c.eo e0 (by kernel_rfl))),
       Ob.gdet rfl rfl rfl rfl (gi := 3) (tg := 16) rfl rfl Iff.rfl (fun _ a_ _ _ c hpc => r_len rfl Try.underlying35 (c.eg 4 rfl rfl hpc) hS.sl),
       Ob.gdet rfl rfl rfl rfl (gi := 3) (tg := 16) rfl rfl Iff.rfl (fun _ a_ _ _ c hpc => r_gtr rfl (c.eg 5 rfl rfl hpc) rfl),
       Ob.det rfl rfl rfl (fun _ a_ _ _ c => r_or rfl (c.ev 3 rfl rfl) (fun h => (c.eg 6 rfl rfl h))),
       Ob.det rfl rfl rfl (fun _ a_ _ _ c => r_move rfl (c.ev 7 rfl rfl)),
       Ob.gdet rfl rfl rfl rfl (gi := 8) (tg := 21) rfl rfl Iff.rfl (fun _ a_ _ _ c hpc => r_move rfl (c.eo e1 (by kernel_rfl))),
       Ob.gdet rfl rfl rfl rfl (gi := 8) (tg := 21) rfl rfl Iff.rfl (fun _ a_ _ _ c hpc => r_lenS rfl Try.underlying9 (c.eg 9 rfl rfl hpc)),
       Ob.gdet rfl rfl rfl rfl (gi := 8) (tg := 21) rfl rfl Iff.rfl (fun _ a_ _ _ c hpc => r_gtr rfl (c.eg 10 rfl rfl hpc) rfl),
       Ob.det rfl rfl rfl (fun _ a_ _ _ c => r_or rfl (c.ev 8 rfl rfl) (fun h => (c.eg 11 rfl rfl h))),
     trivial⟩ ?_
  intro a2 w2 τ2 st2 f2
  replace e0 := f2.old e0 (by kernel_rfl)
  replace e1 := f2.old e1 (by kernel_rfl)
  replace e4 := f2.old e4 (by kernel_rfl)
  have e25 : get a2 25 = (.bool (((decide ((xs.length : Int) = 0)) || (decide (40 < (xs.length : Int)))) || (decide (30 < (t.size : Int))))) := f2.v 12 rfl
  clear f2
  show Code.wp _ _ _ a2 w2
  refine wp_cond_split (t := ((decide ((xs.length : Int) = 0)) || (decide (40 < (xs.length : Int)))) || (decide (30 < (t.size : Int)))) e25 (fun hc1 => ?_) (fun hc1 => ?_)
  · try simp only [Bool.and_eq_true, Bool.or_eq_true, decide_eq_true_eq, decide_eq_false_iff_not, Bool.not_eq_true', Bool.and_eq_false_iff, Bool.or_eq_false_iff, Bool.not_eq_false', Int.not_lt, Int.not_le, beq_iff_eq, selB] at hc1
    refine wp_seq ?_
    refine region_St (bf := [0, 1]) (sp := [
        (det (Nw w) 26 (.bool (true))),
            (det (Nw w) 4 (.bool (true)))])
      [] mixed st2 (by kernel_rfl) trivial
      ⟨Ob.call rfl rfl rfl (fun _ a_ _ _ c => ⟨_, _, (e_call0 rfl rfl Try.call9), awake_c _⟩),
           Ob.det rfl rfl rfl (fun _ a_ _ _ c => r_assign rfl (c.ev 0 rfl rfl)),
       trivial⟩ ?_
    intro a3 w3 τ3 st3 f3
    replace e0 := f3.old e0 (by kernel_rfl)
    replace e1 := f3.old e1 (by kernel_rfl)
    have e4 : get a3 4 = (.bool (true)) := f3.v 1 rfl
    clear f3
    show Code.wp _ _ _ a3 w3
    refine wp_ret ?_
    repeat (first | with_reducible refine then_ret ?_ | with_reducible refine block_ret ?_)
    refine ret1 (fn := Try.f5) rfl st3.defers e4 ?_
    exact ⟨rfl, st3.ext0⟩
  try simp only [Bool.and_eq_true, Bool.or_eq_true, decide_eq_true_eq, decide_eq_false_iff_not, Bool.not_eq_true', Bool.and_eq_false_iff, Bool.or_eq_false_iff, Bool.not_eq_false', Int.not_lt, Int.not_le, beq_iff_eq, selB] at hc1
  refine wp_skip ?_
  show Code.wp _ _ _ a2 w2
  refine wp_seq ?_
  refine region_St (bf := [0]) (sp := [
      (det (Nw w) 5 (.slice none 0 0))])
    [] mixed st2 (by kernel_rfl) trivial
    ⟨Ob.det rfl rfl rfl (fun _ a_ _ _ c => r_assign rfl rfl),
     trivial⟩ ?_
  intro a4 w4 τ4 st4 f4
  replace e0 := f4.old e0 (by kernel_rfl)
  replace e1 := f4.old e1 (by kernel_rfl)
  replace e4 := f4.old e4 (by kernel_rfl)
  have e5 : get a4 5 = (.slice none 0 0) := f4.v 0 rfl
  clear f4
  show Code.wp _ _ _ a4 w4
  refine wp_seq ?_
  refine wp_seq ?_
  refine region_St (bf := [0]) (sp := [
      (det (Nw w) 6 (.int .i64 (0)))])
    [] mixed st4 (by kernel_rfl) trivial
    ⟨Ob.det rfl rfl rfl (fun _ a_ _ _ c => r_assign rfl rfl),
     trivial⟩ ?_
  intro a5 w5 τ5 st5 f5
  replace e0 := f5.old e0 (by kernel_rfl)
  replace e1 := f5.old e1 (by kernel_rfl)
  replace e4 := f5.old e4 (by kernel_rfl)
  replace e5 := f5.old e5 (by kernel_rfl)
  have e6 : get a5 6 = (.int .i64 (0)) := f5.v 0 rfl
  clear f5
  show Code.wp _ _ _ a5 w5
  refine wp_block ?_
  refine wp_loop (fun a_ w_ => ∃ (i : Nat) (o : Value) (τ : Nat → Foot), (i ≤ xs.length) ∧
        St (Nw w) w 115 a_ w_ τ ∧
        get a_ 5 = o ∧
        get a_ 6 = (.int .i64 ((i : Int))) ∧
        get a_ 0 = v ∧
        get a_ 1 = (.string (t)) ∧
        get a_ 4 = (.bool (false)) ∧
        ownR SpanE 33 ((xs.take i).map caret) (τ 0) o w_) (fun a_ _ => xs.length - (intOf (get a_ 6)).toNat) ?_ ?_
  · refine ⟨0, (.slice none 0 0), τ5, ?_, st5, e5, (e6.trans (int_eq (by omega))), e0, e1, e4, ?_⟩
    · omega
    · exact ownR.nil _ _ _ _
  intro a6 w6 hI
  obtain ⟨i, o, τ6, q0, st6, e5, e6, e0, e1, e4, r0⟩ := hI
  have hml := @List.length_map _ _ (xs.take i) caret
  have htl := List.length_take_le i xs
  have m6 := e6
  refine wp_seq ?_
  refine wp_seq ?_
  refine region_St (bf := [0, 0, 2, 7]) (sp := [
      (det (Nw w) 27 (.int .i64 ((i : Int)))),
        (det (Nw w) 28 v),
        (det (Nw w) 29 (.int .i64 ((xs.length : Int)))),
        (det (Nw w) 30 (.bool (decide ((i : Int) < (xs.length : Int)))))])
    [(iown SpanE 33 (Nw w) o ((xs.take i).map caret))] mixed st6 (by kernel_rfl) ⟨r0, trivial⟩
    ⟨Ob.det rfl rfl rfl (fun _ a_ _ _ c => r_move rfl (c.eo e6 (by kernel_rfl))),
       Ob.det rfl rfl rfl (fun _ a_ _ _ c => r_move rfl (c.eo e0 (by kernel_rfl))),
       Ob.det rfl rfl rfl (fun _ a_ _ _ c => r_len rfl Try.underlying35 (c.ev 1 rfl rfl) hS.sl),
       Ob.det rfl rfl rfl (fun _ a_ _ _ c => r_lss rfl (c.ev 0 rfl rfl) (c.ev 2 rfl rfl)),
     trivial⟩ ?_
  intro a7 w7 τ7 st7 f7
  replace e0 := f7.old e0 (by kernel_rfl)
  replace e1 := f7.old e1 (by kernel_rfl)
  replace e4 := f7.old e4 (by kernel_rfl)
  replace e5 := f7.old e5 (by kernel_rfl)
  replace e6 := f7.old e6 (by kernel_rfl)
  have e30 : get a7 30 = (.bool (decide ((i : Int) < (xs.length : Int)))) := f7.v 3 rfl
  replace r0 : ownR SpanE 33 ((xs.take i).map caret) (τ7 0) o w7 := f7.iown 0 rfl rfl
  clear f7
  show Code.wp _ _ _ a7 w7
  refine wp_cond_split (t := decide ((i : Int) < (xs.length : Int))) e30 (fun hc2 => ?_) (fun hc2 => ?_)
  · try simp only [Bool.and_eq_true, Bool.or_eq_true, decide_eq_true_eq, decide_eq_false_iff_not, Bool.not_eq_true', Bool.and_eq_false_iff, Bool.or_eq_false_iff, Bool.not_eq_false', Int.not_lt, Int.not_le, beq_iff_eq, selB] at hc2
    refine wp_skip ?_
    show Code.wp _ _ _ a7 w7
    refine wp_seq ?_
    refine wp_block ?_
    refine region_St (bf := [0, 0, 0, 6, 14, 30, 0, 0, 192, 448, 1022, 2046, 4094, 8191, 16383]) (sp := [
        (det (Nw w) 33 o),
            (det (Nw w) 34 v),
            (det (Nw w) 35 (.int .i64 ((i : Int)))),
            (det (Nw w) 36 (.pointer (some ((ptrOf v).add (((i : Int) : Int).toNat * 1))))),
            (det (Nw w) 37 (.int .i64 ((nth xs ((i : Int)))))),
            (det (Nw w) 38 (.int .i64 (lowF (nth xs ((i : Int))) 200))),
            (det (Nw w) 39 v),
            (det (Nw w) 40 (.int .i64 ((i : Int)))),
            (det (Nw w) 41 (.pointer (some ((ptrOf v).add (((i : Int) : Int).toNat * 1))))),
            (det (Nw w) 42 (.int .i64 ((nth xs ((i : Int)))))),
            (det (Nw w) 43 (.int .i64 (lowF (nth xs ((i : Int))) 200))),
            (det (Nw w) 44 (.agg #[(.int .i64 (lowF (nth xs ((i : Int))) 200)), (.int .i64 (lowF (nth xs ((i : Int))) 200))])),
            (own SpanE 33 (Nw w) 1 45 ([(lowF (nth xs ((i : Int))) 200, lowF (nth xs ((i : Int))) 200)])),
            (own SpanE 33 (Nw w) 0 46 (((xs.take i).map caret) ++ ([(lowF (nth xs ((i : Int))) 200, lowF (nth xs ((i : Int))) 200)]))),
            (own SpanE 33 (Nw w) 0 5 (((xs.take i).map caret) ++ ([(lowF (nth xs ((i : Int))) 200, lowF (nth xs ((i : Int))) 200)])))])
      [(iown SpanE 33 (Nw w) o ((xs.take i).map caret))] mixed st7 (by kernel_rfl) ⟨r0, trivial⟩
      ⟨Ob.det rfl rfl rfl (fun _ a_ _ _ c => r_move rfl (c.eo e5 (by kernel_rfl))),
           Ob.det rfl rfl rfl (fun _ a_ _ _ c => r_move rfl (c.eo e0 (by kernel_rfl))),
           Ob.det rfl rfl rfl (fun _ a_ _ _ c => r_move rfl (c.eo e6 (by kernel_rfl))),
           Ob.det rfl rfl rfl (fun _ a_ _ _ c => r_indexAddr rfl Try.underlying35 Try.sizeOf3 (c.ev 1 rfl rfl) hS.sl (c.ev 2 rfl rfl) (by omega) (by omega)),
           Ob.det rfl rfl rfl (fun _ a_ _ _ c => r_load1 rfl Try.isAgg3 (c.ev 3 rfl rfl) (((hS.at (st7.ext.trans c.J.ext))).elem (j := 0) (nth_some (by omega) (by omega)) rfl)),
           Ob.call rfl rfl rfl (fun _ a_ _ _ c => ⟨_, _, (e_call2 rfl rfl Try.call14 (c.ev 4 rfl rfl) rfl), low_c (nth xs ((i : Int))) 200 _ (by omega) (by omega)⟩),
           Ob.det rfl rfl rfl (fun _ a_ _ _ c => r_move rfl (c.eo e0 (by kernel_rfl))),
           Ob.det rfl rfl rfl (fun _ a_ _ _ c => r_move rfl (c.eo e6 (by kernel_rfl))),
           Ob.det rfl rfl rfl (fun _ a_ _ _ c => r_indexAddr rfl Try.underlying35 Try.sizeOf3 (c.ev 6 rfl rfl) hS.sl (c.ev 7 rfl rfl) (by omega) (by omega)),
           Ob.det rfl rfl rfl (fun _ a_ _ _ c => r_load1 rfl Try.isAgg3 (c.ev 8 rfl rfl) (((hS.at (st7.ext.trans c.J.ext))).elem (j := 0) (nth_some (by omega) (by omega)) rfl)),
           Ob.call rfl rfl rfl (fun _ a_ _ _ c => ⟨_, _, (e_call2 rfl rfl Try.call14 (c.ev 9 rfl rfl) rfl), low_c (nth xs ((i : Int))) 200 _ (by omega) (by omega)⟩),
           Ob.det rfl rfl rfl (fun _ a_ _ _ c => r_build (cells := #[(.int .i64 (lowF (nth xs ((i : Int))) 200)), (.int .i64 (lowF (nth xs ((i : Int))) 200))]) rfl Try.underlying33 Try.zeroValue33 (pl := #[(0, 1), (1, 1)]) (fun w_ => by simp [Try.sizeOf3]) (by simp only [List.map_toArray, List.map_cons, List.map_nil, (show a_.eval (.tmp 38) = (.int .i64 (lowF (nth xs ((i : Int))) 200)) from (c.ev 5 rfl rfl)), (show a_.eval (.tmp 43) = (.int .i64 (lowF (nth xs ((i : Int))) 200)) from (c.ev 10 rfl rfl))]; rfl)),
           Ob.buildSlice (cells := #[(.int .i64 (lowF (nth xs ((i : Int))) 200)), (.int .i64 (lowF (nth xs ((i : Int))) 200))]) rfl rfl rfl rfl Try.underlying22 Try.sizeOf33 Try.zeroValue33 rfl (by decide) (by decide) (fun _ a_ _ _ c => by simp only [List.map_toArray, List.map_cons, List.map_nil, (show a_.eval (.tmp 44) = (.agg #[(.int .i64 (lowF (nth xs ((i : Int))) 200)), (.int .i64 (lowF (nth xs ((i : Int))) 200))]) from (c.ev 11 rfl rfl))]; kernel_rfl) rfl,
           Ob.append (t0 := 5) rfl rfl rfl rfl Try.underlying22 (i := Try.t33) rfl rfl rfl rfl (by simp only [maxLen]; (try simp); omega) (by show _ * 16 ≤ _; (try simp); omega) (fun _ _ _ _ c => ⟨by rw [(show get _ 5 = o from c.old e5 (by kernel_rfl))]; exact c.iown 0 rfl rfl (by kernel_rfl), (c.ev 0 rfl rfl).trans (show o = get _ 5 from (c.old e5 (by kernel_rfl)).symm), ⟨_, rfl, (c.rown 12 rfl rfl (by kernel_rfl)).1.sl⟩⟩),
           Ob.moveT (t0 := 46) rfl rfl rfl rfl rfl (.inr rfl) (fun _ _ _ _ c => ⟨c.rown 13 rfl rfl (by kernel_rfl), rfl⟩),
       trivial⟩ ?_
    intro a8 w8 τ8 st8 f8
    obtain ⟨b8x45, e45⟩ : ∃ b, get a8 45 = b := ⟨_, rfl⟩
    obtain ⟨b8x5, e5⟩ : ∃ b, get a8 5 = b := ⟨_, rfl⟩
    replace e0 := f8.old e0 (by kernel_rfl)
    replace e1 := f8.old e1 (by kernel_rfl)
    replace e4 := f8.old e4 (by kernel_rfl)
    replace e6 := f8.old e6 (by kernel_rfl)
    replace e30 := f8.old e30 (by kernel_rfl)
    have r0 : ownR SpanE 33 (((xs.take i).map caret) ++ ([(lowF (nth xs ((i : Int))) 200, lowF (nth xs ((i : Int))) 200)])) (τ8 0) b8x5 w8 := f8.rown 14 rfl rfl e5
    have r1 : ownR SpanE 33 ([(lowF (nth xs ((i : Int))) 200, lowF (nth xs ((i : Int))) 200)]) (τ8 1) b8x45 w8 := f8.rown 12 rfl rfl e45
    clear f8
    show _
    show Code.wp _ _ _ a8 w8
    refine region_St (bf := [0, 1, 3]) (sp := [
        (det (Nw w) 31 (.int .i64 ((i : Int)))),
            (det (Nw w) 32 (.int .i64 ((i : Int) + 1))),
            (det (Nw w) 6 (.int .i64 ((i : Int) + 1)))])
      [(iown SpanE 33 (Nw w) b8x5 (((xs.take i).map caret) ++ ([(lowF (nth xs ((i : Int))) 200, lowF (nth xs ((i : Int))) 200)]))), (iown SpanE 33 (Nw w) b8x45 ([(lowF (nth xs ((i : Int))) 200, lowF (nth xs ((i : Int))) 200)]))] mixed st8 (by kernel_rfl) ⟨r0, r1, trivial⟩
      ⟨Ob.det rfl rfl rfl (fun _ a_ _ _ c => r_move rfl (c.eo e6 (by kernel_rfl))),
           Ob.det rfl rfl rfl (fun _ a_ _ _ c => r_add rfl (c.ev 0 rfl rfl) rfl (by omega)),
           Ob.det rfl rfl rfl (fun _ a_ _ _ c => r_assign rfl (c.ev 1 rfl rfl)),
       trivial⟩ ?_
    intro a9 w9 τ9 st9 f9
    replace e0 := f9.old e0 (by kernel_rfl)
    replace e1 := f9.old e1 (by kernel_rfl)
    replace e4 := f9.old e4 (by kernel_rfl)
    replace e5 := f9.old e5 (by kernel_rfl)
    have e6 : get a9 6 = (.int .i64 ((i : Int) + 1)) := f9.v 2 rfl
    replace e30 := f9.old e30 (by kernel_rfl)
    replace r0 : ownR SpanE 33 (((xs.take i).map caret) ++ ([(lowF (nth xs ((i : Int))) 200, lowF (nth xs ((i : Int))) 200)])) (τ9 0) b8x5 w9 := f9.iown 0 rfl rfl
    replace r1 : ownR SpanE 33 ([(lowF (nth xs ((i : Int))) 200, lowF (nth xs ((i : Int))) 200)]) (τ9 1) b8x45 w9 := f9.iown 1 rfl rfl
    clear f9
    refine ⟨⟨i + 1, b8x5, τ9, ?_, st9, e5, (e6.trans (int_eq (by omega))), e0, e1, e4, ?_⟩, ?_⟩
    · omega
    · exact r0.cast (by exact map_succ (by omega))
    · simp only [m6, e6, intOf]; omega
  try simp only [Bool.and_eq_true, Bool.or_eq_true, decide_eq_true_eq, decide_eq_false_iff_not, Bool.not_eq_true', Bool.and_eq_false_iff, Bool.or_eq_false_iff, Bool.not_eq_false', Int.not_lt, Int.not_le, beq_iff_eq, selB] at hc2
  refine wp_exit ?_
  repeat (with_reducible refine then_exit ?_)
  refine exit_here ?_
  show Code.wp _ _ _ a7 w7
  refine wp_seq ?_
  refine region_St (bf := [0, 1, 3, 7, 7, 15, 63]) (sp := [
      (det (Nw w) 48 o),
        (tup SpanE 33 (Nw w) 1 49 (normF 200 ((xs.take i).map caret)) (.int .i64 (normE 200 ((xs.take i).map caret)))),
        (tup SpanE 33 (Nw w) 1 47 (normF 200 ((xs.take i).map caret)) (.int .i64 (normE 200 ((xs.take i).map caret)))),
        (own SpanE 33 (Nw w) 1 50 (normF 200 ((xs.take i).map caret))),
        (det (Nw w) 51 (.int .i64 (normE 200 ((xs.take i).map caret)))),
        (own SpanE 33 (Nw w) 1 7 (normF 200 ((xs.take i).map caret))),
        (det (Nw w) 8 (.int .i64 (normE 200 ((xs.take i).map caret))))])
    [(iown SpanE 33 (Nw w) o ((xs.take i).map caret))] mixed st7 (by kernel_rfl) ⟨r0, trivial⟩
    ⟨Ob.det rfl rfl rfl (fun _ a_ _ _ c => r_move rfl (c.eo e5 (by kernel_rfl))),
       Ob.callTup rfl rfl rfl (fun _ a_ _ _ c => ⟨_, _, (e_call2 rfl rfl Try.call10 rfl (c.ev 0 rfl rfl)), norm_c 200 o ((xs.take i).map caret) _ (c.iown 0 rfl rfl (by kernel_rfl)).1.sl⟩),
       Ob.moveT (t0 := 49) rfl rfl rfl rfl rfl (.inl rfl) (fun _ _ _ _ c => ⟨c.rtup 1 rfl rfl (by kernel_rfl), rfl⟩),
       Ob.part0 (t0 := 47) (k := (.int .i64 (normE 200 ((xs.take i).map caret)))) rfl rfl rfl rfl (fun _ _ _ _ c => c.rtup 2 rfl rfl (by kernel_rfl)),
       Ob.det rfl rfl rfl (fun _ a_ _ _ c => c.part1 2 rfl rfl rfl),
       Ob.moveT (t0 := 50) rfl rfl rfl rfl rfl (.inr rfl) (fun _ _ _ _ c => ⟨c.rown 3 rfl rfl (by kernel_rfl), rfl⟩),
       Ob.det rfl rfl rfl (fun _ a_ _ _ c => r_assign rfl (c.ev 4 rfl rfl)),
     trivial⟩ ?_
  intro a10 w10 τ10 st10 f10
  obtain ⟨b10x7, e7⟩ : ∃ b, get a10 7 = b := ⟨_, rfl⟩
  replace e1 := f10.old e1 (by kernel_rfl)
  replace e4 := f10.old e4 (by kernel_rfl)
  have e8 : get a10 8 = (.int .i64 (normE 200 ((xs.take i).map caret))) := f10.v 6 rfl
  have r1 : ownR SpanE 33 (normF 200 ((xs.take i).map caret)) (τ10 1) b10x7 w10 := f10.rown 5 rfl rfl e7
  clear f10
  have hca : (xs.take i).map caret = xs.map caret := by rw [List.take_of_length_le (by omega)]
  replace e8 := e8.trans (congrArg (Value.int .i64) (show normE 200 ((xs.take i).map caret) = (0 : Int) from (by rw [hca]; exact norm_caret (by omega) (by omega))))
  replace r1 := r1.cast (show ordF (xs.map caret) = normF 200 ((xs.take i).map caret) from by rw [hca]; exact (normF_zero (norm_caret (by omega) (by omega))).symm)
  have hol := ordF_le (xs.map caret)
  have hml0 := @List.length_map _ _ xs caret
  have hcar := ordF_all car_join _ (car_caret xs)
  have hpar := ordF_par (xs.map caret)
  show Code.wp _ _ _ a10 w10
  refine wp_seq ?_
  refine wp_seq ?_
  refine region_St (bf := [0, 1]) (sp := [
      (det (Nw w) 52 (.int .i64 (0))),
        (det (Nw w) 53 (.bool (false)))])
    [(Ini.any (Nw w)), (iown SpanE 33 (Nw w) b10x7 (ordF (xs.map caret)))] mixed st10 (by kernel_rfl) ⟨trivial, r1, trivial⟩
    ⟨Ob.det rfl rfl rfl (fun _ a_ _ _ c => r_move rfl (c.eo e8 (by kernel_rfl))),
       Ob.det rfl rfl rfl (fun _ a_ _ _ c => Runs.isB (b := !decide (0 = 0)) (r_neq rfl (c.ev 0 rfl rfl) rfl) (by decide)),
     trivial⟩ ?_
  intro a11 w11 τ11 st11 f11
  replace e1 := f11.old e1 (by kernel_rfl)
  replace e4 := f11.old e4 (by kernel_rfl)
  replace e7 := f11.old e7 (by kernel_rfl)
  have e53 : get a11 53 = (.bool (false)) := f11.v 1 rfl
  replace r1 : ownR SpanE 33 (ordF (xs.map caret)) (τ11 1) b10x7 w11 := f11.iown 1 rfl rfl
  clear f11
  show Code.wp _ _ _ a11 w11
  refine wp_cond_false e53 ?_
  refine wp_skip ?_
  show Code.wp _ _ _ a11 w11
  refine wp_seq ?_
  refine region_St (bf := [0]) (sp := [
      (det (Nw w) 9 (.slice none 0 0))])
    [(Ini.any (Nw w)), (iown SpanE 33 (Nw w) b10x7 (ordF (xs.map caret)))] mixed st11 (by kernel_rfl) ⟨trivial, r1, trivial⟩
    ⟨Ob.det rfl rfl rfl (fun _ a_ _ _ c => r_assign rfl rfl),
     trivial⟩ ?_
  intro a12 w12 τ12 st12 f12
  replace e1 := f12.old e1 (by kernel_rfl)
  replace e4 := f12.old e4 (by kernel_rfl)
  replace e7 := f12.old e7 (by kernel_rfl)
  have e9 : get a12 9 = (.slice none 0 0) := f12.v 0 rfl
  replace r1 : ownR SpanE 33 (ordF (xs.map caret)) (τ12 1) b10x7 w12 := f12.iown 1 rfl rfl
  clear f12
  show Code.wp _ _ _ a12 w12
  refine wp_seq ?_
  refine wp_seq ?_
  refine region_St (bf := [0]) (sp := [
      (det (Nw w) 10 (.int .i64 (0)))])
    [(Ini.any (Nw w)), (iown SpanE 33 (Nw w) b10x7 (ordF (xs.map caret)))] mixed st12 (by kernel_rfl) ⟨trivial, r1, trivial⟩
    ⟨Ob.det rfl rfl rfl (fun _ a_ _ _ c => r_assign rfl rfl),
     trivial⟩ ?_
  intro a13 w13 τ13 st13 f13
  replace e1 := f13.old e1 (by kernel_rfl)
  replace e4 := f13.old e4 (by kernel_rfl)
  replace e7 := f13.old e7 (by kernel_rfl)
  replace e9 := f13.old e9 (by kernel_rfl)
  have e10 : get a13 10 = (.int .i64 (0)) := f13.v 0 rfl
  replace r1 : ownR SpanE 33 (ordF (xs.map caret)) (τ13 1) b10x7 w13 := f13.iown 1 rfl rfl
  clear f13
  show Code.wp _ _ _ a13 w13
  refine wp_block ?_
  refine wp_loop (fun a_ w_ => ∃ (j : Nat) (o2 : Value) (τ : Nat → Foot), (j ≤ (ordF (xs.map caret)).length) ∧
        St (Nw w) w 115 a_ w_ τ ∧
        get a_ 9 = o2 ∧
        get a_ 10 = (.int .i64 ((j : Int))) ∧
        get a_ 1 = (.string (t)) ∧
        get a_ 4 = (.bool (false)) ∧
        get a_ 7 = b10x7 ∧
        ownR EditE 42 (((ordF (xs.map caret)).take j).map (put t)) (τ 3) o2 w_ ∧
        ownR SpanE 33 (ordF (xs.map caret)) (τ 1) b10x7 w_) (fun a_ _ => (ordF (xs.map caret)).length - (intOf (get a_ 10)).toNat) ?_ ?_
  · refine ⟨0, (.slice none 0 0), τ13, ?_, st13, e9, (e10.trans (int_eq (by omega))), e1, e4, e7, ?_, r1⟩
    · omega
    · exact ownR.nil _ _ _ _
  intro a14 w14 hI
  obtain ⟨j, o2, τ14, q0, st14, e9, e10, e1, e4, e7, r3, r1⟩ := hI
  have hml2 := @List.length_map _ _ ((ordF (xs.map caret)).take j) (put t)
  have htl2 := List.length_take_le j (ordF (xs.map caret))
  have m10 := e10
  refine wp_seq ?_
  refine wp_seq ?_
  refine region_St (bf := [0, 0, 2, 7]) (sp := [
      (det (Nw w) 54 (.int .i64 ((j : Int)))),
        (det (Nw w) 55 b10x7),
        (det (Nw w) 56 (.int .i64 (((ordF (xs.map caret)).length : Int)))),
        (det (Nw w) 57 (.bool (decide ((j : Int) < ((ordF (xs.map caret)).length : Int)))))])
    [(Ini.any (Nw w)), (iown SpanE 33 (Nw w) b10x7 (ordF (xs.map caret))), (Ini.any (Nw w)), (iown EditE 42 (Nw w) o2 (((ordF (xs.map caret)).take j).map (put t)))] mixed st14 (by kernel_rfl) ⟨trivial, r1, trivial, r3, trivial⟩
    ⟨Ob.det rfl rfl rfl (fun _ a_ _ _ c => r_move rfl (c.eo e10 (by kernel_rfl))),
       Ob.det rfl rfl rfl (fun _ a_ _ _ c => r_move rfl (c.eo e7 (by kernel_rfl))),
       Ob.det rfl rfl rfl (fun _ a_ _ _ c => r_len rfl Try.underlying22 (c.ev 1 rfl rfl) r1.isSl),
       Ob.det rfl rfl rfl (fun _ a_ _ _ c => r_lss rfl (c.ev 0 rfl rfl) (c.ev 2 rfl rfl)),
     trivial⟩ ?_
  intro a15 w15 τ15 st15 f15
  replace e1 := f15.old e1 (by kernel_rfl)
  replace e4 := f15.old e4 (by kernel_rfl)
  replace e7 := f15.old e7 (by kernel_rfl)
  replace e9 := f15.old e9 (by kernel_rfl)
  replace e10 := f15.old e10 (by kernel_rfl)
  have e57 : get a15 57 = (.bool (decide ((j : Int) < ((ordF (xs.map caret)).length : Int)))) := f15.v 3 rfl
  replace r1 : ownR SpanE 33 (ordF (xs.map caret)) (τ15 1) b10x7 w15 := f15.iown 1 rfl rfl
  replace r3 : ownR EditE 42 (((ordF (xs.map caret)).take j).map (put t)) (τ15 3) o2 w15 := f15.iown 3 rfl rfl
  clear f15
  show Code.wp _ _ _ a15 w15
  refine wp_cond_split (t := decide ((j : Int) < ((ordF (xs.map caret)).length : Int))) e57 (fun hc4 => ?_) (fun hc4 => ?_)
  · try simp only [Bool.and_eq_true, Bool.or_eq_true, decide_eq_true_eq, decide_eq_false_iff_not, Bool.not_eq_true', Bool.and_eq_false_iff, Bool.or_eq_false_iff, Bool.not_eq_false', Int.not_lt, Int.not_le, beq_iff_eq, selB] at hc4
    refine wp_skip ?_
    show Code.wp _ _ _ a15 w15
    refine wp_seq ?_
    refine wp_block ?_
    refine region_St (bf := [0, 0, 0, 6, 14, 30, 0, 126, 254, 511, 1023]) (sp := [
        (det (Nw w) 60 o2),
            (det (Nw w) 61 b10x7),
            (det (Nw w) 62 (.int .i64 ((j : Int)))),
            (det (Nw w) 63 (.pointer (some ((ptrOf b10x7).add (((j : Int) : Int).toNat * 2))))),
            (det (Nw w) 64 (.agg #[(.int .i64 ((nth (ordF (xs.map caret)) ((j : Int))).1)), (.int .i64 ((nth (ordF (xs.map caret)) ((j : Int))).2))])),
            (det (Nw w) 65 (.agg #[(.int .i64 ((sspan (nth (ordF (xs.map caret)) ((j : Int)))).1)), (.int .i64 ((sspan (nth (ordF (xs.map caret)) ((j : Int)))).2))])),
            (det (Nw w) 66 (.string (t))),
            (det (Nw w) 67 (.agg #[(.int .i64 ((sspan (nth (ordF (xs.map caret)) ((j : Int)))).1)), (.int .i64 ((sspan (nth (ordF (xs.map caret)) ((j : Int)))).2)), (.string (t))])),
            (own EditE 42 (Nw w) 2 68 ([((sspan (nth (ordF (xs.map caret)) ((j : Int)))).1, (sspan (nth (ordF (xs.map caret)) ((j : Int)))).2, t)])),
            (own EditE 42 (Nw w) 3 69 ((((ordF (xs.map caret)).take j).map (put t)) ++ ([((sspan (nth (ordF (xs.map caret)) ((j : Int)))).1, (sspan (nth (ordF (xs.map caret)) ((j : Int)))).2, t)]))),
            (own EditE 42 (Nw w) 3 9 ((((ordF (xs.map caret)).take j).map (put t)) ++ ([((sspan (nth (ordF (xs.map caret)) ((j : Int)))).1, (sspan (nth (ordF (xs.map caret)) ((j : Int)))).2, t)])))])
      [(Ini.any (Nw w)), (iown SpanE 33 (Nw w) b10x7 (ordF (xs.map caret))), (Ini.any (Nw w)), (iown EditE 42 (Nw w) o2 (((ordF (xs.map caret)).take j).map (put t)))] mixed st15 (by kernel_rfl) ⟨trivial, r1, trivial, r3, trivial⟩
      ⟨Ob.det rfl rfl rfl (fun _ a_ _ _ c => r_move rfl (c.eo e9 (by kernel_rfl))),
           Ob.det rfl rfl rfl (fun _ a_ _ _ c => r_move rfl (c.eo e7 (by kernel_rfl))),
           Ob.det rfl rfl rfl (fun _ a_ _ _ c => r_move rfl (c.eo e10 (by kernel_rfl))),
           Ob.det rfl rfl rfl (fun _ a_ _ _ c => r_indexAddr rfl Try.underlying22 Try.sizeOf33 (c.ev 1 rfl rfl) r1.isSl (c.ev 2 rfl rfl) (by omega) (by omega)),
           Ob.det rfl rfl rfl (fun _ a_ _ _ c => r_loadN (vs := [(.int .i64 ((nth (ordF (xs.map caret)) ((j : Int))).1)), (.int .i64 ((nth (ordF (xs.map caret)) ((j : Int))).2))]) rfl Try.isAgg33 Try.sizeOf33 (c.ev 3 rfl rfl) rfl (fun _ _ hj => ((c.iown 1 rfl rfl (by kernel_rfl)).1.sl).elem (nth_some (by omega) (by omega)) hj)),
           Ob.call rfl rfl rfl (fun _ a_ _ _ c => ⟨_, _, (e_call1 rfl rfl Try.call15 (c.ev 4 rfl rfl)), selSpan_c (nth (ordF (xs.map caret)) ((j : Int))) _⟩),
           Ob.det rfl rfl rfl (fun _ a_ _ _ c => r_move rfl (c.eo e1 (by kernel_rfl))),
           Ob.det rfl rfl rfl (fun _ a_ _ _ c => r_build (cells := #[(.int .i64 ((sspan (nth (ordF (xs.map caret)) ((j : Int)))).1)), (.int .i64 ((sspan (nth (ordF (xs.map caret)) ((j : Int)))).2)), (.string (t))]) rfl Try.underlying42 Try.zeroValue42 (pl := #[(0, 2), (2, 1)]) (fun w_ => by simp [Try.sizeOf39, Try.sizeOf9]) (by simp only [List.map_toArray, List.map_cons, List.map_nil, (show a_.eval (.tmp 65) = (.agg #[(.int .i64 ((sspan (nth (ordF (xs.map caret)) ((j : Int)))).1)), (.int .i64 ((sspan (nth (ordF (xs.map caret)) ((j : Int)))).2))]) from (c.ev 5 rfl rfl)), (show a_.eval (.tmp 66) = (.string (t)) from (c.ev 6 rfl rfl))]; rfl)),
           Ob.buildSlice (cells := #[(.int .i64 ((sspan (nth (ordF (xs.map caret)) ((j : Int)))).1)), (.int .i64 ((sspan (nth (ordF (xs.map caret)) ((j : Int)))).2)), (.string (t))]) rfl rfl rfl rfl Try.underlying37 Try.sizeOf42 Try.zeroValue42 rfl (by decide) (by decide) (fun _ a_ _ _ c => by simp only [List.map_toArray, List.map_cons, List.map_nil, (show a_.eval (.tmp 67) = (.agg #[(.int .i64 ((sspan (nth (ordF (xs.map caret)) ((j : Int)))).1)), (.int .i64 ((sspan (nth (ordF (xs.map caret)) ((j : Int)))).2)), (.string (t))]) from (c.ev 7 rfl rfl))]; kernel_rfl) rfl,
           Ob.append (t0 := 9) rfl rfl rfl rfl Try.underlying37 (i := Try.t42) rfl rfl rfl rfl (by simp only [maxLen]; (try simp); omega) (by show _ * 32 ≤ _; (try simp); omega) (fun _ _ _ _ c => ⟨by rw [(show get _ 9 = o2 from c.old e9 (by kernel_rfl))]; exact c.iown 3 rfl rfl (by kernel_rfl), (c.ev 0 rfl rfl).trans (show o2 = get _ 9 from (c.old e9 (by kernel_rfl)).symm), ⟨_, rfl, (c.rown 8 rfl rfl (by kernel_rfl)).1.sl⟩⟩),
           Ob.moveT (t0 := 69) rfl rfl rfl rfl rfl (.inr rfl) (fun _ _ _ _ c => ⟨c.rown 9 rfl rfl (by kernel_rfl), rfl⟩),
       trivial⟩ ?_
    intro a16 w16 τ16 st16 f16
    obtain ⟨b16x68, e68⟩ : ∃ b, get a16 68 = b := ⟨_, rfl⟩
    obtain ⟨b16x9, e9⟩ : ∃ b, get a16 9 = b := ⟨_, rfl⟩
    replace e1 := f16.old e1 (by kernel_rfl)
    replace e4 := f16.old e4 (by kernel_rfl)
    replace e7 := f16.old e7 (by kernel_rfl)
    replace e10 := f16.old e10 (by kernel_rfl)
    replace e57 := f16.old e57 (by kernel_rfl)
    replace r1 : ownR SpanE 33 (ordF (xs.map caret)) (τ16 1) b10x7 w16 := f16.iown 1 rfl rfl
    have r2 : ownR EditE 42 ([((sspan (nth (ordF (xs.map caret)) ((j : Int)))).1, (sspan (nth (ordF (xs.map caret)) ((j : Int)))).2, t)]) (τ16 2) b16x68 w16 := f16.rown 8 rfl rfl e68
    have r3 : ownR EditE 42 ((((ordF (xs.map caret)).take j).map (put t)) ++ ([((sspan (nth (ordF (xs.map caret)) ((j : Int)))).1, (sspan (nth (ordF (xs.map caret)) ((j : Int)))).2, t)])) (τ16 3) b16x9 w16 := f16.rown 10 rfl rfl e9
    clear f16
    show _
    show Code.wp _ _ _ a16 w16
    refine region_St (bf := [0, 1, 3]) (sp := [
        (det (Nw w) 58 (.int .i64 ((j : Int)))),
            (det (Nw w) 59 (.int .i64 ((j : Int) + 1))),
            (det (Nw w) 10 (.int .i64 ((j : Int) + 1)))])
      [(Ini.any (Nw w)), (iown SpanE 33 (Nw w) b10x7 (ordF (xs.map caret))), (iown EditE 42 (Nw w) b16x68 ([((sspan (nth (ordF (xs.map caret)) ((j : Int)))).1, (sspan (nth (ordF (xs.map caret)) ((j : Int)))).2, t)])), (iown EditE 42 (Nw w) b16x9 ((((ordF (xs.map caret)).take j).map (put t)) ++ ([((sspan (nth (ordF (xs.map caret)) ((j : Int)))).1, (sspan (nth (ordF (xs.map caret)) ((j : Int)))).2, t)])))] mixed st16 (by kernel_rfl) ⟨trivial, r1, r2, r3, trivial⟩
      ⟨Ob.det rfl rfl rfl (fun _ a_ _ _ c => r_move rfl (c.eo e10 (by kernel_rfl))),
           Ob.det rfl rfl rfl (fun _ a_ _ _ c => r_add rfl (c.ev 0 rfl rfl) rfl (by omega)),
           Ob.det rfl rfl rfl (fun _ a_ _ _ c => r_assign rfl (c.ev 1 rfl rfl)),
       trivial⟩ ?_
    intro a17 w17 τ17 st17 f17
    replace e1 := f17.old e1 (by kernel_rfl)
    replace e4 := f17.old e4 (by kernel_rfl)
    replace e7 := f17.old e7 (by kernel_rfl)
    replace e9 := f17.old e9 (by kernel_rfl)
    have e10 : get a17 10 = (.int .i64 ((j : Int) + 1)) := f17.v 2 rfl
    replace e57 := f17.old e57 (by kernel_rfl)
    replace r1 : ownR SpanE 33 (ordF (xs.map caret)) (τ17 1) b10x7 w17 := f17.iown 1 rfl rfl
    replace r2 : ownR EditE 42 ([((sspan (nth (ordF (xs.map caret)) ((j : Int)))).1, (sspan (nth (ordF (xs.map caret)) ((j : Int)))).2, t)]) (τ17 2) b16x68 w17 := f17.iown 2 rfl rfl
    replace r3 : ownR EditE 42 ((((ordF (xs.map caret)).take j).map (put t)) ++ ([((sspan (nth (ordF (xs.map caret)) ((j : Int)))).1, (sspan (nth (ordF (xs.map caret)) ((j : Int)))).2, t)])) (τ17 3) b16x9 w17 := f17.iown 3 rfl rfl
    clear f17
    refine ⟨⟨j + 1, b16x9, τ17, ?_, st17, e9, (e10.trans (int_eq (by omega))), e1, e4, e7, ?_, r1⟩, ?_⟩
    · omega
    · exact r3.cast (by exact map_succ (by omega))
    · simp only [m10, e10, intOf]; omega
  try simp only [Bool.and_eq_true, Bool.or_eq_true, decide_eq_true_eq, decide_eq_false_iff_not, Bool.not_eq_true', Bool.and_eq_false_iff, Bool.or_eq_false_iff, Bool.not_eq_false', Int.not_lt, Int.not_le, beq_iff_eq, selB] at hc4
  refine wp_exit ?_
  repeat (with_reducible refine then_exit ?_)
  refine exit_here ?_
  show Code.wp _ _ _ a15 w15
  refine wp_seq ?_
  refine region_St (bf := [0, 0, 3, 7]) (sp := [
      (det (Nw w) 70 b10x7),
        (det (Nw w) 71 o2),
        (own SpanE 33 (Nw w) 2 72 (moveS (((ordF (xs.map caret)).take j).map (put t)) (ordF (xs.map caret)))),
        (own SpanE 33 (Nw w) 2 11 (moveS (((ordF (xs.map caret)).take j).map (put t)) (ordF (xs.map caret))))])
    [(Ini.any (Nw w)), (iown SpanE 33 (Nw w) b10x7 (ordF (xs.map caret))), (Ini.any (Nw w)), (iown EditE 42 (Nw w) o2 (((ordF (xs.map caret)).take j).map (put t)))] mixed st15 (by kernel_rfl) ⟨trivial, r1, trivial, r3, trivial⟩
    ⟨Ob.det rfl rfl rfl (fun _ a_ _ _ c => r_move rfl (c.eo e7 (by kernel_rfl))),
       Ob.det rfl rfl rfl (fun _ a_ _ _ c => r_move rfl (c.eo e9 (by kernel_rfl))),
       Ob.callOwn rfl rfl rfl (fun _ a_ _ _ c => ⟨_, _, (e_call2 rfl rfl Try.call16 (c.ev 0 rfl rfl) (c.ev 1 rfl rfl)), moveSel_c b10x7 o2 (ordF (xs.map caret)) (((ordF (xs.map caret)).take j).map (put t)) _ (c.iown 1 rfl rfl (by kernel_rfl)).1.sl (c.iown 3 rfl rfl (by kernel_rfl)).1.sl (by omega) (by omega)⟩),
       Ob.moveT (t0 := 72) rfl rfl rfl rfl rfl (.inr rfl) (fun _ _ _ _ c => ⟨c.rown 2 rfl rfl (by kernel_rfl), rfl⟩),
     trivial⟩ ?_
  intro a18 w18 τ18 st18 f18
  obtain ⟨b18x11, e11⟩ : ∃ b, get a18 11 = b := ⟨_, rfl⟩
  replace e1 := f18.old e1 (by kernel_rfl)
  replace e4 := f18.old e4 (by kernel_rfl)
  replace e7 := f18.old e7 (by kernel_rfl)
  replace r1 : ownR SpanE 33 (ordF (xs.map caret)) (τ18 1) b10x7 w18 := f18.iown 1 rfl rfl
  have r2 : ownR SpanE 33 (moveS (((ordF (xs.map caret)).take j).map (put t)) (ordF (xs.map caret))) (τ18 2) b18x11 w18 := f18.rown 3 rfl rfl e11
  clear f18
  replace r2 := r2.cast (show typ (t.size : Int) 0 (ordF (xs.map caret)) = moveS (((ordF (xs.map caret)).take j).map (put t)) (ordF (xs.map caret)) from by rw [List.take_of_length_le (by omega)]; exact (typed (by omega) _ hcar hpar (by omega)).symm)
  have htyl := typ_len (t.size : Int) 0 (ordF (xs.map caret))
  show Code.wp _ _ _ a18 w18
  refine wp_seq ?_
  refine wp_seq ?_
  refine region_St (bf := [0, 1, 0, 4, 15]) (sp := [
      (det (Nw w) 73 b18x11),
        (det (Nw w) 74 (.int .i64 (((typ (t.size : Int) 0 (ordF (xs.map caret))).length : Int)))),
        (det (Nw w) 75 b10x7),
        (det (Nw w) 76 (.int .i64 (((ordF (xs.map caret)).length : Int)))),
        (det (Nw w) 77 (.bool (false)))])
    [(Ini.any (Nw w)), (iown SpanE 33 (Nw w) b10x7 (ordF (xs.map caret))), (iown SpanE 33 (Nw w) b18x11 (typ (t.size : Int) 0 (ordF (xs.map caret))))] mixed st18 (by kernel_rfl) ⟨trivial, r1, r2, trivial⟩
    ⟨Ob.det rfl rfl rfl (fun _ a_ _ _ c => r_move rfl (c.eo e11 (by kernel_rfl))),
       Ob.det rfl rfl rfl (fun _ a_ _ _ c => r_len rfl Try.underlying22 (c.ev 0 rfl rfl) r2.isSl),
       Ob.det rfl rfl rfl (fun _ a_ _ _ c => r_move rfl (c.eo e7 (by kernel_rfl))),
       Ob.det rfl rfl rfl (fun _ a_ _ _ c => r_len rfl Try.underlying22 (c.ev 2 rfl rfl) r1.isSl),
       Ob.det rfl rfl rfl (fun _ a_ _ _ c => Runs.isB (b := !decide (((typ (t.size : Int) 0 (ordF (xs.map caret))).length : Int) = ((ordF (xs.map caret)).length : Int))) (r_neq rfl (c.ev 1 rfl rfl) (c.ev 3 rfl rfl)) (by rw [typ_len]; simp)),
     trivial⟩ ?_
  intro a19 w19 τ19 st19 f19
  replace e1 := f19.old e1 (by kernel_rfl)
  replace e4 := f19.old e4 (by kernel_rfl)
  replace e7 := f19.old e7 (by kernel_rfl)
  replace e11 := f19.old e11 (by kernel_rfl)
  have e77 : get a19 77 = (.bool (false)) := f19.v 4 rfl
  replace r1 : ownR SpanE 33 (ordF (xs.map caret)) (τ19 1) b10x7 w19 := f19.iown 1 rfl rfl
  replace r2 : ownR SpanE 33 (typ (t.size : Int) 0 (ordF (xs.map caret))) (τ19 2) b18x11 w19 := f19.iown 2 rfl rfl
  clear f19
  show Code.wp _ _ _ a19 w19
  refine wp_cond_false e77 ?_
  refine wp_skip ?_
  show Code.wp _ _ _ a19 w19
  refine wp_seq ?_
  refine wp_seq ?_
  refine region_St (bf := [0]) (sp := [
      (det (Nw w) 12 (.int .i64 (0)))])
    [(Ini.any (Nw w)), (iown SpanE 33 (Nw w) b10x7 (ordF (xs.map caret))), (iown SpanE 33 (Nw w) b18x11 (typ (t.size : Int) 0 (ordF (xs.map caret))))] mixed st19 (by kernel_rfl) ⟨trivial, r1, r2, trivial⟩
    ⟨Ob.det rfl rfl rfl (fun _ a_ _ _ c => r_assign rfl rfl),
     trivial⟩ ?_
  intro a20 w20 τ20 st20 f20
  replace e1 := f20.old e1 (by kernel_rfl)
  replace e4 := f20.old e4 (by kernel_rfl)
  replace e7 := f20.old e7 (by kernel_rfl)
  replace e11 := f20.old e11 (by kernel_rfl)
  have e12 : get a20 12 = (.int .i64 (0)) := f20.v 0 rfl
  replace r1 : ownR SpanE 33 (ordF (xs.map caret)) (τ20 1) b10x7 w20 := f20.iown 1 rfl rfl
  replace r2 : ownR SpanE 33 (typ (t.size : Int) 0 (ordF (xs.map caret))) (τ20 2) b18x11 w20 := f20.iown 2 rfl rfl
  clear f20
  show Code.wp _ _ _ a20 w20
  refine wp_block ?_
  refine wp_loop (fun a_ w_ => ∃ (m : Nat) (τ : Nat → Foot), (m ≤ (ordF (xs.map caret)).length) ∧
        St (Nw w) w 115 a_ w_ τ ∧
        get a_ 12 = (.int .i64 ((m : Int))) ∧
        get a_ 1 = (.string (t)) ∧
        get a_ 7 = b10x7 ∧
        get a_ 11 = b18x11 ∧
        ownR SpanE 33 (ordF (xs.map caret)) (τ 1) b10x7 w_ ∧
        ownR SpanE 33 (typ (t.size : Int) 0 (ordF (xs.map caret))) (τ 2) b18x11 w_) (fun a_ _ => (ordF (xs.map caret)).length - (intOf (get a_ 12)).toNat) ?_ ?_
  · refine ⟨0, τ20, ?_, st20, (e12.trans (int_eq (by omega))), e1, e7, e11, r1, r2⟩
    · omega
  intro a21 w21 hI
  obtain ⟨m, τ21, q0, st21, e12, e1, e7, e11, r1, r2⟩ := hI
  have hmu := typ_mul (t := t) (i := m) (n := (ordF (xs.map caret)).length) (by omega) (by omega)
  have hcb := car_at (i := m) hcar
  have m12 := e12
  refine wp_seq ?_
  refine wp_seq ?_
  refine region_St (bf := [0, 0, 2, 7]) (sp := [
      (det (Nw w) 78 (.int .i64 ((m : Int)))),
        (det (Nw w) 79 b10x7),
        (det (Nw w) 80 (.int .i64 (((ordF (xs.map caret)).length : Int)))),
        (det (Nw w) 81 (.bool (decide ((m : Int) < ((ordF (xs.map caret)).length : Int)))))])
    [(Ini.any (Nw w)), (iown SpanE 33 (Nw w) b10x7 (ordF (xs.map caret))), (iown SpanE 33 (Nw w) b18x11 (typ (t.size : Int) 0 (ordF (xs.map caret))))] mixed st21 (by kernel_rfl) ⟨trivial, r1, r2, trivial⟩
    ⟨Ob.det rfl rfl rfl (fun _ a_ _ _ c => r_move rfl (c.eo e12 (by kernel_rfl))),
       Ob.det rfl rfl rfl (fun _ a_ _ _ c => r_move rfl (c.eo e7 (by kernel_rfl))),
       Ob.det rfl rfl rfl (fun _ a_ _ _ c => r_len rfl Try.underlying22 (c.ev 1 rfl rfl) r1.isSl),
       Ob.det rfl rfl rfl (fun _ a_ _ _ c => r_lss rfl (c.ev 0 rfl rfl) (c.ev 2 rfl rfl)),
     trivial⟩ ?_
  intro a22 w22 τ22 st22 f22
  replace e1 := f22.old e1 (by kernel_rfl)
  replace e7 := f22.old e7 (by kernel_rfl)
  replace e11 := f22.old e11 (by kernel_rfl)
  replace e12 := f22.old e12 (by kernel_rfl)
  have e81 : get a22 81 = (.bool (decide ((m : Int) < ((ordF (xs.map caret)).length : Int)))) := f22.v 3 rfl
  replace r1 : ownR SpanE 33 (ordF (xs.map caret)) (τ22 1) b10x7 w22 := f22.iown 1 rfl rfl
  replace r2 : ownR SpanE 33 (typ (t.size : Int) 0 (ordF (xs.map caret))) (τ22 2) b18x11 w22 := f22.iown 2 rfl rfl
  clear f22
  show Code.wp _ _ _ a22 w22
  refine wp_cond_split (t := decide ((m : Int) < ((ordF (xs.map caret)).length : Int))) e81 (fun hc6 => ?_) (fun hc6 => ?_)
  · try simp only [Bool.and_eq_true, Bool.or_eq_true, decide_eq_true_eq, decide_eq_false_iff_not, Bool.not_eq_true', Bool.and_eq_false_iff, Bool.or_eq_false_iff, Bool.not_eq_false', Int.not_lt, Int.not_le, beq_iff_eq, selB] at hc6
    refine wp_skip ?_
    show Code.wp _ _ _ a22 w22
    refine wp_seq ?_
    refine wp_block ?_
    refine wp_seq ?_
    refine region_St (bf := [0, 0, 3, 7, 15, 0, 0, 96, 224, 480, 0, 1024, 0, 4096, 15360, 32736, 65535, 131071, 262143, 262143, 1048575, 2097151, 4194303, 262143, 262143, 25427967, 58982399, 126091263, 268435455, 536870911]) (sp := [
        (det (Nw w) 84 b18x11),
            (det (Nw w) 85 (.int .i64 ((m : Int)))),
            (det (Nw w) 86 (.pointer (some ((ptrOf b18x11).add (((m : Int) : Int).toNat * 2))))),
            (det (Nw w) 87 (.pointer (some (((ptrOf b18x11).add (((m : Int) : Int).toNat * 2)).add 1)))),
            (det (Nw w) 88 (.int .i64 ((nth (typ (t.size : Int) 0 (ordF (xs.map caret))) ((m : Int))).2))),
            (det (Nw w) 89 b10x7),
            (det (Nw w) 90 (.int .i64 ((m : Int)))),
            (det (Nw w) 91 (.pointer (some ((ptrOf b10x7).add (((m : Int) : Int).toNat * 2))))),
            (det (Nw w) 92 (.pointer (some (((ptrOf b10x7).add (((m : Int) : Int).toNat * 2)).add 1)))),
            (det (Nw w) 93 (.int .i64 ((nth (ordF (xs.map caret)) ((m : Int))).2))),
            (det (Nw w) 94 (.int .i64 ((m : Int)))),
            (det (Nw w) 95 (.int .i64 ((m : Int) + 1))),
            (det (Nw w) 96 (.string (t))),
            (det (Nw w) 97 (.int .i64 ((t.size : Int)))),
            (det (Nw w) 98 (.int .i64 (((m : Int) + 1) * (t.size : Int)))),
            (det (Nw w) 99 (.int .i64 ((nth (ordF (xs.map caret)) ((m : Int))).2 + (((m : Int) + 1) * (t.size : Int))))),
            (det (Nw w) 100 (.bool (!decide ((nth (typ (t.size : Int) 0 (ordF (xs.map caret))) ((m : Int))).2 = (nth (ordF (xs.map caret)) ((m : Int))).2 + (((m : Int) + 1) * (t.size : Int)))))),
            (det (Nw w) 101 (.bool (!decide ((nth (typ (t.size : Int) 0 (ordF (xs.map caret))) ((m : Int))).2 = (nth (ordF (xs.map caret)) ((m : Int))).2 + (((m : Int) + 1) * (t.size : Int)))))),
            (gdet (Nw w) 102 ((!decide ((nth (typ (t.size : Int) 0 (ordF (xs.map caret))) ((m : Int))).2 = (nth (ordF (xs.map caret)) ((m : Int))).2 + (((m : Int) + 1) * (t.size : Int)))) = false) b18x11),
            (gdet (Nw w) 103 ((!decide ((nth (typ (t.size : Int) 0 (ordF (xs.map caret))) ((m : Int))).2 = (nth (ordF (xs.map caret)) ((m : Int))).2 + (((m : Int) + 1) * (t.size : Int)))) = false) (.int .i64 ((m : Int)))),
            (gdet (Nw w) 104 ((!decide ((nth (typ (t.size : Int) 0 (ordF (xs.map caret))) ((m : Int))).2 = (nth (ordF (xs.map caret)) ((m : Int))).2 + (((m : Int) + 1) * (t.size : Int)))) = false) (.pointer (some ((ptrOf b18x11).add (((m : Int) : Int).toNat * 2))))),
            (gdet (Nw w) 105 ((!decide ((nth (typ (t.size : Int) 0 (ordF (xs.map caret))) ((m : Int))).2 = (nth (ordF (xs.map caret)) ((m : Int))).2 + (((m : Int) + 1) * (t.size : Int)))) = false) (.pointer (some (((ptrOf b18x11).add (((m : Int) : Int).toNat * 2)).add 0)))),
            (gdet (Nw w) 106 ((!decide ((nth (typ (t.size : Int) 0 (ordF (xs.map caret))) ((m : Int))).2 = (nth (ordF (xs.map caret)) ((m : Int))).2 + (((m : Int) + 1) * (t.size : Int)))) = false) (.int .i64 ((nth (typ (t.size : Int) 0 (ordF (xs.map caret))) ((m : Int))).1))),
            (gdet (Nw w) 107 ((!decide ((nth (typ (t.size : Int) 0 (ordF (xs.map caret))) ((m : Int))).2 = (nth (ordF (xs.map caret)) ((m : Int))).2 + (((m : Int) + 1) * (t.size : Int)))) = false) b18x11),
            (gdet (Nw w) 108 ((!decide ((nth (typ (t.size : Int) 0 (ordF (xs.map caret))) ((m : Int))).2 = (nth (ordF (xs.map caret)) ((m : Int))).2 + (((m : Int) + 1) * (t.size : Int)))) = false) (.int .i64 ((m : Int)))),
            (gdet (Nw w) 109 ((!decide ((nth (typ (t.size : Int) 0 (ordF (xs.map caret))) ((m : Int))).2 = (nth (ordF (xs.map caret)) ((m : Int))).2 + (((m : Int) + 1) * (t.size : Int)))) = false) (.pointer (some ((ptrOf b18x11).add (((m : Int) : Int).toNat * 2))))),
            (gdet (Nw w) 110 ((!decide ((nth (typ (t.size : Int) 0 (ordF (xs.map caret))) ((m : Int))).2 = (nth (ordF (xs.map caret)) ((m : Int))).2 + (((m : Int) + 1) * (t.size : Int)))) = false) (.pointer (some (((ptrOf b18x11).add (((m : Int) : Int).toNat * 2)).add 1)))),
            (gdet (Nw w) 111 ((!decide ((nth (typ (t.size : Int) 0 (ordF (xs.map caret))) ((m : Int))).2 = (nth (ordF (xs.map caret)) ((m : Int))).2 + (((m : Int) + 1) * (t.size : Int)))) = false) (.int .i64 ((nth (typ (t.size : Int) 0 (ordF (xs.map caret))) ((m : Int))).2))),
            (gdet (Nw w) 112 ((!decide ((nth (typ (t.size : Int) 0 (ordF (xs.map caret))) ((m : Int))).2 = (nth (ordF (xs.map caret)) ((m : Int))).2 + (((m : Int) + 1) * (t.size : Int)))) = false) (.bool (!decide ((nth (typ (t.size : Int) 0 (ordF (xs.map caret))) ((m : Int))).1 = (nth (typ (t.size : Int) 0 (ordF (xs.map caret))) ((m : Int))).2)))),
            (det (Nw w) 113 (.bool (false)))])
      [(Ini.any (Nw w)), (iown SpanE 33 (Nw w) b10x7 (ordF (xs.map caret))), (iown SpanE 33 (Nw w) b18x11 (typ (t.size : Int) 0 (ordF (xs.map caret))))] mixed st22 (by kernel_rfl) ⟨trivial, r1, r2, trivial⟩
      ⟨Ob.det rfl rfl rfl (fun _ a_ _ _ c => r_move rfl (c.eo e11 (by kernel_rfl))),
           Ob.det rfl rfl rfl (fun _ a_ _ _ c => r_move rfl (c.eo e12 (by kernel_rfl))),
           Ob.det rfl rfl rfl (fun _ a_ _ _ c => r_indexAddr rfl Try.underlying22 Try.sizeOf33 (c.ev 0 rfl rfl) r2.isSl (c.ev 1 rfl rfl) (by omega) (by omega)),
           Ob.det rfl rfl rfl (fun _ a_ _ _ c => r_fieldAddr rfl Try.underlying33 rfl rfl Try.sizeOf3 (c.ev 2 rfl rfl)),
           Ob.det rfl rfl rfl (fun _ a_ _ _ c => r_load1 rfl Try.isAgg3 (c.ev 3 rfl rfl) (((c.iown 2 rfl rfl (by kernel_rfl)).1.sl).elem (j := 1) (nth_some (by omega) (by omega)) rfl)),
           Ob.det rfl rfl rfl (fun _ a_ _ _ c => r_move rfl (c.eo e7 (by kernel_rfl))),
           Ob.det rfl rfl rfl (fun _ a_ _ _ c => r_move rfl (c.eo e12 (by kernel_rfl))),
           Ob.det rfl rfl rfl (fun _ a_ _ _ c => r_indexAddr rfl Try.underlying22 Try.sizeOf33 (c.ev 5 rfl rfl) r1.isSl (c.ev 6 rfl rfl) (by omega) (by omega)),
           Ob.det rfl rfl rfl (fun _ a_ _ _ c => r_fieldAddr rfl Try.underlying33 rfl rfl Try.sizeOf3 (c.ev 7 rfl rfl)),
           Ob.det rfl rfl rfl (fun _ a_ _ _ c => r_load1 rfl Try.isAgg3 (c.ev 8 rfl rfl) (((c.iown 1 rfl rfl (by kernel_rfl)).1.sl).elem (j := 1) (nth_some (by omega) (by omega)) rfl)),
           Ob.det rfl rfl rfl (fun _ a_ _ _ c => r_move rfl (c.eo e12 (by kernel_rfl))),
           Ob.det rfl rfl rfl (fun _ a_ _ _ c => r_add rfl (c.ev 10 rfl rfl) rfl (by omega)),
           Ob.det rfl rfl rfl (fun _ a_ _ _ c => r_move rfl (c.eo e1 (by kernel_rfl))),
           Ob.det rfl rfl rfl (fun _ a_ _ _ c => r_lenS rfl Try.underlying9 (c.ev 12 rfl rfl)),
           Ob.det rfl rfl rfl (fun _ a_ _ _ c => r_mul rfl (c.ev 11 rfl rfl) (c.ev 13 rfl rfl) (by omega)),
           Ob.det rfl rfl rfl (fun _ a_ _ _ c => r_add rfl (c.ev 9 rfl rfl) (c.ev 14 rfl rfl) (by omega)),
           Ob.det rfl rfl rfl (fun _ a_ _ _ c => r_neq rfl (c.ev 4 rfl rfl) (c.ev 15 rfl rfl)),
           Ob.det rfl rfl rfl (fun _ a_ _ _ c => r_move rfl (c.ev 16 rfl rfl)),
           Ob.gdet rfl rfl rfl rfl (gi := 17) (tg := 101) rfl rfl Iff.rfl (fun _ a_ _ _ c hpc => r_move rfl (c.eo e11 (by kernel_rfl))),
           Ob.gdet rfl rfl rfl rfl (gi := 17) (tg := 101) rfl rfl Iff.rfl (fun _ a_ _ _ c hpc => r_move rfl (c.eo e12 (by kernel_rfl))),
           Ob.gdet rfl rfl rfl rfl (gi := 17) (tg := 101) rfl rfl Iff.rfl (fun _ a_ _ _ c hpc => r_indexAddr rfl Try.underlying22 Try.sizeOf33 (c.eg 18 rfl rfl hpc) r2.isSl (c.eg 19 rfl rfl hpc) (by have hq0 := hpc; (try simp only [Bool.and_eq_true, Bool.or_eq_true, decide_eq_true_eq, decide_eq_false_iff_not, Bool.not_eq_true', Bool.and_eq_false_iff, Bool.or_eq_false_iff, Bool.not_eq_false', Int.not_lt, Int.not_le, beq_iff_eq, selB] at hq0); omega) (by have hq0 := hpc; (try simp only [Bool.and_eq_true, Bool.or_eq_true, decide_eq_true_eq, decide_eq_false_iff_not, Bool.not_eq_true', Bool.and_eq_false_iff, Bool.or_eq_false_iff, Bool.not_eq_false', Int.not_lt, Int.not_le, beq_iff_eq, selB] at hq0); omega)),
           Ob.gdet rfl rfl rfl rfl (gi := 17) (tg := 101) rfl rfl Iff.rfl (fun _ a_ _ _ c hpc => r_fieldAddr rfl Try.underlying33 rfl rfl Try.sizeOf3 (c.eg 20 rfl rfl hpc)),
           Ob.gdet rfl rfl rfl rfl (gi := 17) (tg := 101) rfl rfl Iff.rfl (fun _ a_ _ _ c hpc => r_load1 rfl Try.isAgg3 (c.eg 21 rfl rfl hpc) (((c.iown 2 rfl rfl (by kernel_rfl)).1.sl).elem (j := 0) (nth_some (by have hq0 := hpc; (try simp only [Bool.and_eq_true, Bool.or_eq_true, decide_eq_true_eq, decide_eq_false_iff_not, Bool.not_eq_true', Bool.and_eq_false_iff, Bool.or_eq_false_iff, Bool.not_eq_false', Int.not_lt, Int.not_le, beq_iff_eq, selB] at hq0); omega) (by have hq0 := hpc; (try simp only [Bool.and_eq_true, Bool.or_eq_true, decide_eq_true_eq, decide_eq_false_iff_not, Bool.not_eq_true', Bool.and_eq_false_iff, Bool.or_eq_false_iff, Bool.not_eq_false', Int.not_lt, Int.not_le, beq_iff_eq, selB] at hq0); omega)) rfl)),
           Ob.gdet rfl rfl rfl rfl (gi := 17) (tg := 101) rfl rfl Iff.rfl (fun _ a_ _ _ c hpc => r_move rfl (c.eo e11 (by kernel_rfl))),
           Ob.gdet rfl rfl rfl rfl (gi := 17) (tg := 101) rfl rfl Iff.rfl (fun _ a_ _ _ c hpc => r_move rfl (c.eo e12 (by kernel_rfl))),
           Ob.gdet rfl rfl rfl rfl (gi := 17) (tg := 101) rfl rfl Iff.rfl (fun _ a_ _ _ c hpc => r_indexAddr rfl Try.underlying22 Try.sizeOf33 (c.eg 23 rfl rfl hpc) r2.isSl (c.eg 24 rfl rfl hpc) (by have hq0 := hpc; (try simp only [Bool.and_eq_true, Bool.or_eq_true, decide_eq_true_eq, decide_eq_false_iff_not, Bool.not_eq_true', Bool.and_eq_false_iff, Bool.or_eq_false_iff, Bool.not_eq_false', Int.not_lt, Int.not_le, beq_iff_eq, selB] at hq0); omega) (by have hq0 := hpc; (try simp only [Bool.and_eq_true, Bool.or_eq_true, decide_eq_true_eq, decide_eq_false_iff_not, Bool.not_eq_true', Bool.and_eq_false_iff, Bool.or_eq_false_iff, Bool.not_eq_false', Int.not_lt, Int.not_le, beq_iff_eq, selB] at hq0); omega)),
           Ob.gdet rfl rfl rfl rfl (gi := 17) (tg := 101) rfl rfl Iff.rfl (fun _ a_ _ _ c hpc => r_fieldAddr rfl Try.underlying33 rfl rfl Try.sizeOf3 (c.eg 25 rfl rfl hpc)),
           Ob.gdet rfl rfl rfl rfl (gi := 17) (tg := 101) rfl rfl Iff.rfl (fun _ a_ _ _ c hpc => r_load1 rfl Try.isAgg3 (c.eg 26 rfl rfl hpc) (((c.iown 2 rfl rfl (by kernel_rfl)).1.sl).elem (j := 1) (nth_some (by have hq0 := hpc; (try simp only [Bool.and_eq_true, Bool.or_eq_true, decide_eq_true_eq, decide_eq_false_iff_not, Bool.not_eq_true', Bool.and_eq_false_iff, Bool.or_eq_false_iff, Bool.not_eq_false', Int.not_lt, Int.not_le, beq_iff_eq, selB] at hq0); omega) (by have hq0 := hpc; (try simp only [Bool.and_eq_true, Bool.or_eq_true, decide_eq_true_eq, decide_eq_false_iff_not, Bool.not_eq_true', Bool.and_eq_false_iff, Bool.or_eq_false_iff, Bool.not_eq_false', Int.not_lt, Int.not_le, beq_iff_eq, selB] at hq0); omega)) rfl)),
           Ob.gdet rfl rfl rfl rfl (gi := 17) (tg := 101) rfl rfl Iff.rfl (fun _ a_ _ _ c hpc => r_neq rfl (c.eg 22 rfl rfl hpc) (c.eg 27 rfl rfl hpc)),
           Ob.det rfl rfl rfl (fun _ a_ _ _ c => Runs.isB (b := (!decide ((nth (typ (t.size : Int) 0 (ordF (xs.map caret))) ((m : Int))).2 = (nth (ordF (xs.map caret)) ((m : Int))).2 + (((m : Int) + 1) * (t.size : Int)))) || (!decide ((nth (typ (t.size : Int) 0 (ordF (xs.map caret))) ((m : Int))).1 = (nth (typ (t.size : Int) 0 (ordF (xs.map caret))) ((m : Int))).2))) (r_or rfl (c.ev 17 rfl rfl) (fun h => (c.eg 28 rfl rfl h))) (by exact typed_ok hcar (by omega))),
       trivial⟩ ?_
    intro a23 w23 τ23 st23 f23
    replace e1 := f23.old e1 (by kernel_rfl)
    replace e7 := f23.old e7 (by kernel_rfl)
    replace e11 := f23.old e11 (by kernel_rfl)
    replace e12 := f23.old e12 (by kernel_rfl)
    replace e81 := f23.old e81 (by kernel_rfl)
    have e113 : get a23 113 = (.bool (false)) := f23.v 29 rfl
    replace r1 : ownR SpanE 33 (ordF (xs.map caret)) (τ23 1) b10x7 w23 := f23.iown 1 rfl rfl
    replace r2 : ownR SpanE 33 (typ (t.size : Int) 0 (ordF (xs.map caret))) (τ23 2) b18x11 w23 := f23.iown 2 rfl rfl
    clear f23
    show Code.wp _ _ _ a23 w23
    refine wp_cond_false e113 ?_
    refine wp_skip ?_
    show _
    show Code.wp _ _ _ a23 w23
    refine region_St (bf := [0, 1, 3]) (sp := [
        (det (Nw w) 82 (.int .i64 ((m : Int)))),
            (det (Nw w) 83 (.int .i64 ((m : Int) + 1))),
            (det (Nw w) 12 (.int .i64 ((m : Int) + 1)))])
      [(Ini.any (Nw w)), (iown SpanE 33 (Nw w) b10x7 (ordF (xs.map caret))), (iown SpanE 33 (Nw w) b18x11 (typ (t.size : Int) 0 (ordF (xs.map caret))))] mixed st23 (by kernel_rfl) ⟨trivial, r1, r2, trivial⟩
      ⟨Ob.det rfl rfl rfl (fun _ a_ _ _ c => r_move rfl (c.eo e12 (by kernel_rfl))),
           Ob.det rfl rfl rfl (fun _ a_ _ _ c => r_add rfl (c.ev 0 rfl rfl) rfl (by omega)),
           Ob.det rfl rfl rfl (fun _ a_ _ _ c => r_assign rfl (c.ev 1 rfl rfl)),
       trivial⟩ ?_
    intro a24 w24 τ24 st24 f24
    replace e1 := f24.old e1 (by kernel_rfl)
    replace e7 := f24.old e7 (by kernel_rfl)
    replace e11 := f24.old e11 (by kernel_rfl)
    have e12 : get a24 12 = (.int .i64 ((m : Int) + 1)) := f24.v 2 rfl
    replace e81 := f24.old e81 (by kernel_rfl)
    replace e113 := f24.old e113 (by kernel_rfl)
    replace r1 : ownR SpanE 33 (ordF (xs.map caret)) (τ24 1) b10x7 w24 := f24.iown 1 rfl rfl
    replace r2 : ownR SpanE 33 (typ (t.size : Int) 0 (ordF (xs.map caret))) (τ24 2) b18x11 w24 := f24.iown 2 rfl rfl
    clear f24
    refine ⟨⟨m + 1, τ24, ?_, st24, (e12.trans (int_eq (by omega))), e1, e7, e11, r1, r2⟩, ?_⟩
    · omega
    · simp only [m12, e12, intOf]; omega
  try simp only [Bool.and_eq_true, Bool.or_eq_true, decide_eq_true_eq, decide_eq_false_iff_not, Bool.not_eq_true', Bool.and_eq_false_iff, Bool.or_eq_false_iff, Bool.not_eq_false', Int.not_lt, Int.not_le, beq_iff_eq, selB] at hc6
  refine wp_exit ?_
  repeat (with_reducible refine then_exit ?_)
  refine exit_here ?_
  show Code.wp _ _ _ a22 w22
  refine wp_seq ?_
  refine region_St (bf := [0, 1]) (sp := [
      (det (Nw w) 114 (.bool (true))),
        (det (Nw w) 4 (.bool (true)))])
    [(Ini.any (Nw w)), (iown SpanE 33 (Nw w) b10x7 (ordF (xs.map caret))), (iown SpanE 33 (Nw w) b18x11 (typ (t.size : Int) 0 (ordF (xs.map caret))))] mixed st22 (by kernel_rfl) ⟨trivial, r1, r2, trivial⟩
    ⟨Ob.call rfl rfl rfl (fun _ a_ _ _ c => ⟨_, _, (e_call0 rfl rfl Try.call9), awake_c _⟩),
       Ob.det rfl rfl rfl (fun _ a_ _ _ c => r_assign rfl (c.ev 0 rfl rfl)),
     trivial⟩ ?_
  intro a25 w25 τ25 st25 f25
  have e4 : get a25 4 = (.bool (true)) := f25.v 1 rfl
  clear f25
  show Code.wp _ _ _ a25 w25
  refine wp_ret ?_
  repeat (first | with_reducible refine then_ret ?_ | with_reducible refine block_ret ?_)
  refine ret1 (fn := Try.f5) rfl st25.defers e4 ?_
  exact ⟨rfl, st25.ext0⟩
end B
end Go.Proofs.Ytjapbdofhbfmfaa
