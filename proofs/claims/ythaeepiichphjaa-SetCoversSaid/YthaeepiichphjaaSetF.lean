/-
  Walks, printed by a program (gen.py): SetF.
-/
import Derived.Test.YthaeepiichphjaaSetE
set_option linter.unusedSimpArgs false
set_option linter.unusedVariables false
namespace Go.Proofs.Ythaeepiichphjaa
namespace B
open Go.RowKit
open Srt
set_option maxRecDepth 100000 in
theorem rows_c (v u : Value) (xs ys : List (ByteArray × ByteArray)) (w : World) (hS : SlT RowE w v xs) (hU : SlT RowE w u ys) : Calls Try.prog 13 #[v, u] w (fun e w' => e = .returned (.bool (decide (xs = ys))) ∧ Ext none' w w') := by
 refine enter (n := 26) Try.func13 rfl rfl (Nat.le_of_ble_eq_true rfl) ?_
 intro a0 τ0 ha st0
 have e0 : get a0 0 = v := ha 0 _ rfl
 have e1 : get a0 1 = u := ha 1 _ rfl
 clear ha
 have hle := hS.le
 have hle2 := hU.le
 refine wp_seq ?_
 refine region_St (bf := [0]) (sp := [det _ 4 _]) [] mixed st0 (by kernel_rfl) trivial
  ⟨Ob.d fun c => r_assign rfl rfl, trivial⟩ ?_
 intro a1 w1 τ1 st1 f1
 obtain ⟨e0, e1, -⟩ := f1.ks [(0, _), (1, _)] ⟨e0, e1, trivial⟩
 have e4 : get a1 4 = (.bool (false)) := f1.v 0 rfl
 clear f1
 show Code.wp _ _ _ a1 w1
 refine wp_seq ?_
 refine wp_seq ?_
 refine region_St (bf := [0, 1, 0, 4, 15]) (sp := [det _ 6 _, det _ 7 _, det _ 8 _, det _ 9 _, det _ 10 _]) [] mixed st1 (by kernel_rfl) trivial
  ⟨Ob.d fun c => r_move rfl (c.p e0),
  Ob.d fun c => r_len rfl Try.underlying22 (c.n 0 rfl) hS.sl,
  Ob.d fun c => r_move rfl (c.p e1),
  Ob.d fun c => r_len rfl Try.underlying22 (c.n 2 rfl) hU.sl,
  Ob.d fun c => r_neq rfl (c.n 1 rfl) (c.n 3 rfl), trivial⟩ ?_
 intro a2 w2 τ2 st2 f2
 obtain ⟨e0, e1, e4, -⟩ := f2.ks [(0, _), (1, _), (4, _)] ⟨e0, e1, e4, trivial⟩
 have e10 : get a2 10 = (.bool (!decide ((xs.length : Int) = (ys.length : Int)))) := f2.v 4 rfl
 clear f2
 show Code.wp _ _ _ a2 w2
 refine wp_cond_split (t := !decide ((xs.length : Int) = (ys.length : Int))) e10 (fun hc1 => ?_) (fun hc1 => ?_)
 · try simp only [Bool.not_eq_true', Bool.not_eq_false', decide_eq_true_eq, decide_eq_false_iff_not] at hc1
   refine wp_seq ?_
   refine region_St (bf := [0]) (sp := [det _ 4 _]) [] mixed st2 (by kernel_rfl) trivial
    ⟨Ob.d fun c => r_assign rfl rfl, trivial⟩ ?_
   intro a3 w3 τ3 st3 f3
   obtain ⟨e0, e1, -⟩ := f3.ks [(0, _), (1, _)] ⟨e0, e1, trivial⟩
   have e4 : get a3 4 = (.bool (false)) := f3.v 0 rfl
   clear f3
   show Code.wp _ _ _ a3 w3
   refine wp_ret ?_
   repeat (first | with_reducible refine then_ret ?_ | with_reducible refine block_ret ?_)
   refine ret1 (fn := Try.f13) rfl st3.defers e4 ?_
   exact ⟨congrArg _ (congrArg _ (by first | (symm; exact decide_eq_false (fun h => by subst h; omega)) | (symm; exact decide_eq_false (differ (by assumption))) | (symm; exact decide_eq_true (all_same q1 q0 q2 (by assumption))))), st3.ext0⟩
 try simp only [Bool.not_eq_true', Bool.not_eq_false', decide_eq_true_eq, decide_eq_false_iff_not] at hc1
 refine wp_skip ?_
 show Code.wp _ _ _ a2 w2
 refine wp_seq ?_
 refine wp_seq ?_
 refine region_St (bf := [0]) (sp := [det _ 5 _]) [] mixed st2 (by kernel_rfl) trivial
  ⟨Ob.d fun c => r_assign rfl rfl, trivial⟩ ?_
 intro a4 w4 τ4 st4 f4
 obtain ⟨e0, e1, e4, -⟩ := f4.ks [(0, _), (1, _), (4, _)] ⟨e0, e1, e4, trivial⟩
 have e5 : get a4 5 = (.int .i64 (0)) := f4.v 0 rfl
 clear f4
 show Code.wp _ _ _ a4 w4
 refine wp_block ?_
 refine wp_loop (fun a_ w_ => ∃ (k : Nat) (τ : Nat → Foot), (k ≤ xs.length) ∧
      (xs.length = ys.length) ∧
      (xs.take k = ys.take k) ∧
      St (Nw w) w 26 a_ w_ τ ∧
      get a_ 5 = (.int .i64 ((k : Int))) ∧
      get a_ 0 = v ∧
      get a_ 1 = u) (fun a_ _ => xs.length - (intOf (get a_ 5)).toNat) ?_ ?_
 · refine ⟨0, τ4, ?_, ?_, ?_, st4, (e5.trans (int_eq (by omega))), e0, e1⟩
   · omega
   · omega
   · simp
 intro a5 w5 hI
 obtain ⟨k, τ5, q0, q1, q2, st5, e5, e0, e1⟩ := hI
 have m5 := e5
 refine wp_seq ?_
 refine wp_seq ?_
 refine region_St (bf := [0, 0, 2, 7]) (sp := [det _ 11 _, det _ 12 _, det _ 13 _, det _ 14 _]) [] mixed st5 (by kernel_rfl) trivial
  ⟨Ob.d fun c => r_move rfl (c.p e5),
  Ob.d fun c => r_move rfl (c.p e0),
  Ob.d fun c => r_len rfl Try.underlying22 (c.n 1 rfl) hS.sl,
  Ob.d fun c => r_lss rfl (c.n 0 rfl) (c.n 2 rfl), trivial⟩ ?_
 intro a6 w6 τ6 st6 f6
 obtain ⟨e0, e1, e5, -⟩ := f6.ks [(0, _), (1, _), (5, _)] ⟨e0, e1, e5, trivial⟩
 have e14 : get a6 14 = (.bool (decide ((k : Int) < (xs.length : Int)))) := f6.v 3 rfl
 clear f6
 show Code.wp _ _ _ a6 w6
 refine wp_cond_split (t := decide ((k : Int) < (xs.length : Int))) e14 (fun hc2 => ?_) (fun hc2 => ?_)
 · try simp only [decide_eq_true_eq] at hc2
   refine wp_skip ?_
   show Code.wp _ _ _ a6 w6
   refine wp_seq ?_
   refine wp_block ?_
   refine wp_seq ?_
   refine region_St (bf := [0, 0, 3, 7, 0, 0, 48, 112, 255]) (sp := [det _ 17 _, det _ 18 _, det _ 19 _, det _ 20 _, det _ 21 _, det _ 22 _, det _ 23 _, det _ 24 _, det _ 25 _]) [] mixed st6 (by kernel_rfl) trivial
    ⟨Ob.d fun c => r_move rfl (c.p e0),
    Ob.d fun c => r_move rfl (c.p e5),
    Ob.d fun c => r_indexAddr rfl Try.underlying22 Try.sizeOf36 (c.n 0 rfl) hS.sl (c.n 1 rfl) (by omega) (by omega),
    Ob.d fun c => r_loadN (vs := [(.string ((nth xs ((k : Int))).1)), (.string ((nth xs ((k : Int))).2))]) rfl Try.isAgg36 Try.sizeOf36 (c.n 2 rfl) rfl (fun _ _ hj => ((hS.at (st6.ext.trans c.J.ext))).elem (nth_some (i := (k : Int)) (by omega) (by omega)) hj),
    Ob.d fun c => r_move rfl (c.p e1),
    Ob.d fun c => r_move rfl (c.p e5),
    Ob.d fun c => r_indexAddr rfl Try.underlying22 Try.sizeOf36 (c.n 4 rfl) hU.sl (c.n 5 rfl) (by omega) (by omega),
    Ob.d fun c => r_loadN (vs := [(.string ((nth ys ((k : Int))).1)), (.string ((nth ys ((k : Int))).2))]) rfl Try.isAgg36 Try.sizeOf36 (c.n 6 rfl) rfl (fun _ _ hj => ((hU.at (st6.ext.trans c.J.ext))).elem (nth_some (i := (k : Int)) (by omega) (by omega)) hj),
    Ob.d fun c => rw_ne rfl (c.n 3 rfl) (c.n 7 rfl), trivial⟩ ?_
   intro a7 w7 τ7 st7 f7
   obtain ⟨e0, e1, e5, e14, -⟩ := f7.ks [(0, _), (1, _), (5, _), (14, _)] ⟨e0, e1, e5, e14, trivial⟩
   have e25 : get a7 25 = (.bool (!(rwB (nth xs ((k : Int))) (nth ys ((k : Int)))))) := f7.v 8 rfl
   clear f7
   show Code.wp _ _ _ a7 w7
   refine wp_cond_split (t := !(rwB (nth xs ((k : Int))) (nth ys ((k : Int))))) e25 (fun hc3 => ?_) (fun hc3 => ?_)
   · try simp only [Bool.not_eq_true', Bool.not_eq_false', decide_eq_true_eq, decide_eq_false_iff_not, rwB] at hc3
     refine wp_seq ?_
     refine region_St (bf := [0]) (sp := [det _ 4 _]) [] mixed st7 (by kernel_rfl) trivial
      ⟨Ob.d fun c => r_assign rfl rfl, trivial⟩ ?_
     intro a8 w8 τ8 st8 f8
     obtain ⟨e0, e1, e5, e14, e25, -⟩ := f8.ks [(0, _), (1, _), (5, _), (14, _), (25, _)] ⟨e0, e1, e5, e14, e25, trivial⟩
     have e4 : get a8 4 = (.bool (false)) := f8.v 0 rfl
     clear f8
     show Code.wp _ _ _ a8 w8
     refine wp_ret ?_
     repeat (first | with_reducible refine then_ret ?_ | with_reducible refine block_ret ?_)
     refine ret1 (fn := Try.f13) rfl st8.defers e4 ?_
     exact ⟨congrArg _ (congrArg _ (by first | (symm; exact decide_eq_false (fun h => by subst h; omega)) | (symm; exact decide_eq_false (differ (by assumption))) | (symm; exact decide_eq_true (all_same q1 q0 q2 (by assumption))))), st8.ext0⟩
   try simp only [Bool.not_eq_true', Bool.not_eq_false', decide_eq_true_eq, decide_eq_false_iff_not, rwB] at hc3
   refine wp_skip ?_
   show _
   show Code.wp _ _ _ a7 w7
   refine region_St (bf := [0, 1, 3]) (sp := [det _ 15 _, det _ 16 _, det _ 5 _]) [] mixed st7 (by kernel_rfl) trivial
    ⟨Ob.d fun c => r_move rfl (c.p e5),
    Ob.d fun c => r_add rfl (c.n 0 rfl) rfl (by omega),
    Ob.d fun c => r_assign rfl (c.n 1 rfl), trivial⟩ ?_
   intro a9 w9 τ9 st9 f9
   obtain ⟨e0, e1, e14, e25, -⟩ := f9.ks [(0, _), (1, _), (14, _), (25, _)] ⟨e0, e1, e14, e25, trivial⟩
   have e5 : get a9 5 = (.int .i64 ((k : Int) + 1)) := f9.v 2 rfl
   clear f9
   refine ⟨⟨k + 1, τ9, ?_, ?_, ?_, st9, (e5.trans (int_eq (by omega))), e0, e1⟩, ?_⟩
   · omega
   · omega
   · exact take_same (by omega) (by omega) q2 (by assumption)
   · simp only [m5, e5, intOf]; omega
 try simp only [decide_eq_false_iff_not, Int.not_lt] at hc2
 refine wp_exit ?_
 repeat (with_reducible refine then_exit ?_)
 refine exit_here ?_
 show Code.wp _ _ _ a6 w6
 refine wp_seq ?_
 refine region_St (bf := [0]) (sp := [det _ 4 _]) [] mixed st6 (by kernel_rfl) trivial
  ⟨Ob.d fun c => r_assign rfl rfl, trivial⟩ ?_
 intro a10 w10 τ10 st10 f10
 have e4 : get a10 4 = (.bool (true)) := f10.v 0 rfl
 clear f10
 show Code.wp _ _ _ a10 w10
 refine wp_ret ?_
 repeat (first | with_reducible refine then_ret ?_ | with_reducible refine block_ret ?_)
 refine ret1 (fn := Try.f13) rfl st10.defers e4 ?_
 exact ⟨congrArg _ (congrArg _ (by first | (symm; exact decide_eq_false (fun h => by subst h; omega)) | (symm; exact decide_eq_false (differ (by assumption))) | (symm; exact decide_eq_true (all_same q1 q0 q2 (by assumption))))), st10.ext0⟩

set_option maxRecDepth 100000 in
theorem long_c (n : Int) (v : Value) (xs : List ByteArray) (w : World) (hS : SlT StrE w v xs) (hn : -1000000000 ≤ n ∧ n ≤ 1000000000) : Calls Try.prog 24 #[(.int .i64 (n)), v] w (fun e w' => e = .returned (.bool (longL n xs)) ∧ Ext none' w w') := by
 refine enter (n := 27) Try.func24 rfl rfl (Nat.le_of_ble_eq_true rfl) ?_
 intro a0 τ0 ha st0
 have e0 : get a0 0 = (.int .i64 (n)) := ha 0 _ rfl
 have e1 : get a0 1 = v := ha 1 _ rfl
 clear ha
 have hle := hS.le
 refine wp_seq ?_
 refine region_St (bf := [0]) (sp := [det _ 4 _]) [] mixed st0 (by kernel_rfl) trivial
  ⟨Ob.d fun c => r_assign rfl rfl, trivial⟩ ?_
 intro a1 w1 τ1 st1 f1
 obtain ⟨e0, e1, -⟩ := f1.ks [(0, _), (1, _)] ⟨e0, e1, trivial⟩
 have e4 : get a1 4 = (.bool (false)) := f1.v 0 rfl
 clear f1
 show Code.wp _ _ _ a1 w1
 refine wp_seq ?_
 refine wp_seq ?_
 refine region_St (bf := [0]) (sp := [det _ 5 _]) [] mixed st1 (by kernel_rfl) trivial
  ⟨Ob.d fun c => r_assign rfl rfl, trivial⟩ ?_
 intro a2 w2 τ2 st2 f2
 obtain ⟨e0, e1, e4, -⟩ := f2.ks [(0, _), (1, _), (4, _)] ⟨e0, e1, e4, trivial⟩
 have e5 : get a2 5 = (.int .i64 (0)) := f2.v 0 rfl
 clear f2
 show Code.wp _ _ _ a2 w2
 refine wp_block ?_
 refine wp_loop (fun a_ w_ => ∃ (k : Nat) (l : Int) (τ : Nat → Foot), (k ≤ xs.length) ∧
      (-1000000000 ≤ l ∧ l ≤ 1000000000) ∧
      (longL n xs = longL l (xs.drop k)) ∧
      St (Nw w) w 27 a_ w_ τ ∧
      get a_ 0 = (.int .i64 (l)) ∧
      get a_ 5 = (.int .i64 ((k : Int))) ∧
      get a_ 1 = v) (fun a_ _ => xs.length - (intOf (get a_ 5)).toNat) ?_ ?_
 · refine ⟨0, n, τ2, ?_, ?_, ?_, st2, (e0.trans (int_eq (by omega))), (e5.trans (int_eq (by omega))), e1⟩
   · omega
   · omega
   · rfl
 intro a3 w3 hI
 obtain ⟨k, l, τ3, q0, q1, q2, st3, e0, e5, e1⟩ := hI
 have m5 := e5
 refine wp_seq ?_
 refine wp_seq ?_
 refine region_St (bf := [0, 0, 2, 7]) (sp := [det _ 6 _, det _ 7 _, det _ 8 _, det _ 9 _]) [] mixed st3 (by kernel_rfl) trivial
  ⟨Ob.d fun c => r_move rfl (c.p e5),
  Ob.d fun c => r_move rfl (c.p e1),
  Ob.d fun c => r_len rfl Try.underlying50 (c.n 1 rfl) hS.sl,
  Ob.d fun c => r_lss rfl (c.n 0 rfl) (c.n 2 rfl), trivial⟩ ?_
 intro a4 w4 τ4 st4 f4
 obtain ⟨e0, e1, e5, -⟩ := f4.ks [(0, _), (1, _), (5, _)] ⟨e0, e1, e5, trivial⟩
 have e9 : get a4 9 = (.bool (decide ((k : Int) < (xs.length : Int)))) := f4.v 3 rfl
 clear f4
 show Code.wp _ _ _ a4 w4
 refine wp_cond_split (t := decide ((k : Int) < (xs.length : Int))) e9 (fun hc1 => ?_) (fun hc1 => ?_)
 · try simp only [decide_eq_true_eq] at hc1
   refine wp_skip ?_
   show Code.wp _ _ _ a4 w4
   refine wp_seq ?_
   refine wp_block ?_
   refine wp_seq ?_
   refine wp_seq ?_
   refine region_St (bf := [0, 0, 3, 7, 15, 0, 63]) (sp := [det _ 12 _, det _ 13 _, det _ 14 _, det _ 15 _, det _ 16 _, det _ 17 _, det _ 18 _]) [] mixed st4 (by kernel_rfl) trivial
    ⟨Ob.d fun c => r_move rfl (c.p e1),
    Ob.d fun c => r_move rfl (c.p e5),
    Ob.d fun c => r_indexAddr rfl Try.underlying50 Try.sizeOf9 (c.n 0 rfl) hS.sl (c.n 1 rfl) (by omega) (by omega),
    Ob.d fun c => r_load1 rfl Try.isAgg9 (c.n 2 rfl) (((hS.at (st4.ext.trans c.J.ext))).elem (j := 0) (nth_some (i := (k : Int)) (by omega) (by omega)) rfl),
    Ob.d fun c => r_lenS rfl Try.underlying9 (c.n 3 rfl),
    Ob.d fun c => r_move rfl (c.p e0),
    Ob.d fun c => r_geq rfl (c.n 4 rfl) (c.n 5 rfl), trivial⟩ ?_
   intro a5 w5 τ5 st5 f5
   obtain ⟨e0, e1, e5, e9, -⟩ := f5.ks [(0, _), (1, _), (5, _), (9, _)] ⟨e0, e1, e5, e9, trivial⟩
   have e18 : get a5 18 = (.bool (decide (l ≤ ((nth xs ((k : Int))).size : Int)))) := f5.v 6 rfl
   clear f5
   show Code.wp _ _ _ a5 w5
   refine wp_cond_split (t := decide (l ≤ ((nth xs ((k : Int))).size : Int))) e18 (fun hc2 => ?_) (fun hc2 => ?_)
   · try simp only [decide_eq_true_eq] at hc2
     refine wp_seq ?_
     refine region_St (bf := [0]) (sp := [det _ 4 _]) [] mixed st5 (by kernel_rfl) trivial
      ⟨Ob.d fun c => r_assign rfl rfl, trivial⟩ ?_
     intro a6 w6 τ6 st6 f6
     obtain ⟨e0, e1, e5, e9, e18, -⟩ := f6.ks [(0, _), (1, _), (5, _), (9, _), (18, _)] ⟨e0, e1, e5, e9, e18, trivial⟩
     have e4 : get a6 4 = (.bool (true)) := f6.v 0 rfl
     clear f6
     show Code.wp _ _ _ a6 w6
     refine wp_ret ?_
     repeat (first | with_reducible refine then_ret ?_ | with_reducible refine block_ret ?_)
     refine ret1 (fn := Try.f24) rfl st6.defers e4 ?_
     exact ⟨congrArg _ (congrArg _ (by first | exact (longL_hit (k := k) (by omega) q2 (by omega)).symm | exact (longL_end (k := k) (by omega) q2).symm)), st6.ext0⟩
   try simp only [decide_eq_false_iff_not, Int.not_le] at hc2
   refine wp_skip ?_
   show Code.wp _ _ _ a5 w5
   refine region_St (bf := [0, 0, 0, 6, 14, 30, 63, 127, 255]) (sp := [det _ 19 _, det _ 20 _, det _ 21 _, det _ 22 _, det _ 23 _, det _ 24 _, det _ 25 _, det _ 26 _, det _ 0 _]) [] mixed st5 (by kernel_rfl) trivial
    ⟨Ob.d fun c => r_move rfl (c.p e0),
    Ob.d fun c => r_move rfl (c.p e1),
    Ob.d fun c => r_move rfl (c.p e5),
    Ob.d fun c => r_indexAddr rfl Try.underlying50 Try.sizeOf9 (c.n 1 rfl) hS.sl (c.n 2 rfl) (by omega) (by omega),
    Ob.d fun c => r_load1 rfl Try.isAgg9 (c.n 3 rfl) (((hS.at (st5.ext.trans c.J.ext))).elem (j := 0) (nth_some (i := (k : Int)) (by omega) (by omega)) rfl),
    Ob.d fun c => r_lenS rfl Try.underlying9 (c.n 4 rfl),
    Ob.d fun c => r_sub rfl (c.n 0 rfl) (c.n 5 rfl) (by omega),
    Ob.d fun c => r_sub rfl (c.n 6 rfl) rfl (by omega),
    Ob.d fun c => r_assign rfl (c.n 7 rfl), trivial⟩ ?_
   intro a7 w7 τ7 st7 f7
   obtain ⟨e1, e5, e9, e18, -⟩ := f7.ks [(1, _), (5, _), (9, _), (18, _)] ⟨e1, e5, e9, e18, trivial⟩
   have e0 : get a7 0 = (.int .i64 (l - ((nth xs ((k : Int))).size : Int) - 1)) := f7.v 8 rfl
   clear f7
   show _
   show Code.wp _ _ _ a7 w7
   refine region_St (bf := [0, 1, 3]) (sp := [det _ 10 _, det _ 11 _, det _ 5 _]) [] mixed st7 (by kernel_rfl) trivial
    ⟨Ob.d fun c => r_move rfl (c.p e5),
    Ob.d fun c => r_add rfl (c.n 0 rfl) rfl (by omega),
    Ob.d fun c => r_assign rfl (c.n 1 rfl), trivial⟩ ?_
   intro a8 w8 τ8 st8 f8
   obtain ⟨e0, e1, e9, e18, -⟩ := f8.ks [(0, _), (1, _), (9, _), (18, _)] ⟨e0, e1, e9, e18, trivial⟩
   have e5 : get a8 5 = (.int .i64 ((k : Int) + 1)) := f8.v 2 rfl
   clear f8
   refine ⟨⟨k + 1, l - ((nth xs ((k : Int))).size : Int) - 1, τ8, ?_, ?_, ?_, st8, (e0.trans (int_eq (by omega))), (e5.trans (int_eq (by omega))), e1⟩, ?_⟩
   · omega
   · omega
   · exact longL_next (by omega) q2 (by omega)
   · simp only [m5, e5, intOf]; omega
 try simp only [decide_eq_false_iff_not, Int.not_lt] at hc1
 refine wp_exit ?_
 repeat (with_reducible refine then_exit ?_)
 refine exit_here ?_
 show Code.wp _ _ _ a4 w4
 refine wp_seq ?_
 refine region_St (bf := [0]) (sp := [det _ 4 _]) [] mixed st4 (by kernel_rfl) trivial
  ⟨Ob.d fun c => r_assign rfl rfl, trivial⟩ ?_
 intro a9 w9 τ9 st9 f9
 have e4 : get a9 4 = (.bool (false)) := f9.v 0 rfl
 clear f9
 show Code.wp _ _ _ a9 w9
 refine wp_ret ?_
 repeat (first | with_reducible refine then_ret ?_ | with_reducible refine block_ret ?_)
 refine ret1 (fn := Try.f24) rfl st9.defers e4 ?_
 exact ⟨congrArg _ (congrArg _ (by first | exact (longL_hit (k := k) (by omega) q2 (by omega)).symm | exact (longL_end (k := k) (by omega) q2).symm)), st9.ext0⟩

set_option maxRecDepth 100000 in
theorem much_c (m n : Int) (v : Value) (xs : List (ByteArray × ByteArray)) (w : World) (hS : SlT RowE w v xs) (hn : 0 ≤ n ∧ n ≤ 1000000000) : Calls Try.prog 9 #[(.int .i64 (m)), (.int .i64 (n)), v] w (fun e w' => e = .returned (.bool (muchR m n xs)) ∧ Ext none' w w') := by
 refine enter (n := 46) Try.func9 rfl rfl (Nat.le_of_ble_eq_true rfl) ?_
 intro a0 τ0 ha st0
 have e0 : get a0 0 = (.int .i64 (m)) := ha 0 _ rfl
 have e1 : get a0 1 = (.int .i64 (n)) := ha 1 _ rfl
 have e2 : get a0 2 = v := ha 2 _ rfl
 clear ha
 have hle := hS.le
 refine wp_seq ?_
 refine region_St (bf := [0]) (sp := [det _ 6 _]) [] mixed st0 (by kernel_rfl) trivial
  ⟨Ob.d fun c => r_assign rfl rfl, trivial⟩ ?_
 intro a1 w1 τ1 st1 f1
 obtain ⟨e0, e1, e2, -⟩ := f1.ks [(0, _), (1, _), (2, _)] ⟨e0, e1, e2, trivial⟩
 have e6 : get a1 6 = (.bool (false)) := f1.v 0 rfl
 clear f1
 show Code.wp _ _ _ a1 w1
 refine wp_seq ?_
 refine wp_seq ?_
 refine region_St (bf := [0, 1, 0, 7]) (sp := [det _ 8 _, det _ 9 _, det _ 10 _, det _ 11 _]) [] mixed st1 (by kernel_rfl) trivial
  ⟨Ob.d fun c => r_move rfl (c.p e2),
  Ob.d fun c => r_len rfl Try.underlying22 (c.n 0 rfl) hS.sl,
  Ob.d fun c => r_move rfl (c.p e0),
  Ob.d fun c => r_gtr rfl (c.n 1 rfl) (c.n 2 rfl), trivial⟩ ?_
 intro a2 w2 τ2 st2 f2
 obtain ⟨e1, e2, e6, -⟩ := f2.ks [(1, _), (2, _), (6, _)] ⟨e1, e2, e6, trivial⟩
 have e11 : get a2 11 = (.bool (decide (m < (xs.length : Int)))) := f2.v 3 rfl
 clear f2
 show Code.wp _ _ _ a2 w2
 refine wp_cond_split (t := decide (m < (xs.length : Int))) e11 (fun hc1 => ?_) (fun hc1 => ?_)
 · try simp only [decide_eq_true_eq] at hc1
   refine wp_seq ?_
   refine region_St (bf := [0]) (sp := [det _ 6 _]) [] mixed st2 (by kernel_rfl) trivial
    ⟨Ob.d fun c => r_assign rfl rfl, trivial⟩ ?_
   intro a3 w3 τ3 st3 f3
   obtain ⟨e1, e2, -⟩ := f3.ks [(1, _), (2, _)] ⟨e1, e2, trivial⟩
   have e6 : get a3 6 = (.bool (true)) := f3.v 0 rfl
   clear f3
   show Code.wp _ _ _ a3 w3
   refine wp_ret ?_
   repeat (first | with_reducible refine then_ret ?_ | with_reducible refine block_ret ?_)
   refine ret1 (fn := Try.f9) rfl st3.defers e6 ?_
   exact ⟨congrArg _ (congrArg _ (by unfold muchR; first | (rw [decide_eq_true (by omega)]; rfl) | (rw [decide_eq_false (by omega), muchRL_hit (k := k) (by omega) q2 (by assumption)]; rfl) | (rw [decide_eq_false (by omega), muchRL_end (k := k) (by omega) q2]; rfl))), st3.ext0⟩
 try simp only [decide_eq_false_iff_not, Int.not_lt] at hc1
 refine wp_skip ?_
 show Code.wp _ _ _ a2 w2
 refine wp_seq ?_
 refine wp_seq ?_
 refine region_St (bf := [0]) (sp := [det _ 7 _]) [] mixed st2 (by kernel_rfl) trivial
  ⟨Ob.d fun c => r_assign rfl rfl, trivial⟩ ?_
 intro a4 w4 τ4 st4 f4
 obtain ⟨e1, e2, e6, -⟩ := f4.ks [(1, _), (2, _), (6, _)] ⟨e1, e2, e6, trivial⟩
 have e7 : get a4 7 = (.int .i64 (0)) := f4.v 0 rfl
 clear f4
 show Code.wp _ _ _ a4 w4
 refine wp_block ?_
 refine wp_loop (fun a_ w_ => ∃ (k : Nat) (l : Int) (τ : Nat → Foot), (k ≤ xs.length) ∧
      (0 ≤ l ∧ l ≤ 1000000000) ∧
      (muchRL n xs = muchRL l (xs.drop k)) ∧
      St (Nw w) w 46 a_ w_ τ ∧
      get a_ 1 = (.int .i64 (l)) ∧
      get a_ 7 = (.int .i64 ((k : Int))) ∧
      get a_ 2 = v) (fun a_ _ => xs.length - (intOf (get a_ 7)).toNat) ?_ ?_
 · refine ⟨0, n, τ4, ?_, ?_, ?_, st4, (e1.trans (int_eq (by omega))), (e7.trans (int_eq (by omega))), e2⟩
   · omega
   · omega
   · rfl
 intro a5 w5 hI
 obtain ⟨k, l, τ5, q0, q1, q2, st5, e1, e7, e2⟩ := hI
 have m7 := e7
 refine wp_seq ?_
 refine wp_seq ?_
 refine region_St (bf := [0, 0, 2, 7]) (sp := [det _ 12 _, det _ 13 _, det _ 14 _, det _ 15 _]) [] mixed st5 (by kernel_rfl) trivial
  ⟨Ob.d fun c => r_move rfl (c.p e7),
  Ob.d fun c => r_move rfl (c.p e2),
  Ob.d fun c => r_len rfl Try.underlying22 (c.n 1 rfl) hS.sl,
  Ob.d fun c => r_lss rfl (c.n 0 rfl) (c.n 2 rfl), trivial⟩ ?_
 intro a6 w6 τ6 st6 f6
 obtain ⟨e1, e2, e7, -⟩ := f6.ks [(1, _), (2, _), (7, _)] ⟨e1, e2, e7, trivial⟩
 have e15 : get a6 15 = (.bool (decide ((k : Int) < (xs.length : Int)))) := f6.v 3 rfl
 clear f6
 show Code.wp _ _ _ a6 w6
 refine wp_cond_split (t := decide ((k : Int) < (xs.length : Int))) e15 (fun hc2 => ?_) (fun hc2 => ?_)
 · try simp only [decide_eq_true_eq] at hc2
   refine wp_skip ?_
   show Code.wp _ _ _ a6 w6
   refine wp_seq ?_
   refine wp_block ?_
   refine wp_seq ?_
   refine wp_seq ?_
   refine region_St (bf := [0, 0, 0, 6, 14, 30, 0, 0, 192, 448, 960, 2046, 4095]) (sp := [det _ 18 _, det _ 19 _, det _ 20 _, det _ 21 _, det _ 22 _, det _ 23 _, det _ 24 _, det _ 25 _, det _ 26 _, det _ 27 _, det _ 28 _, own StrE 9 _ 0 29 ([(nth xs ((k : Int))).1, (nth xs ((k : Int))).2]), det _ 30 _]) [] mixed st6 (by kernel_rfl) trivial
    ⟨Ob.d fun c => r_move rfl (c.p e1),
    Ob.d fun c => r_move rfl (c.p e2),
    Ob.d fun c => r_move rfl (c.p e7),
    Ob.d fun c => r_indexAddr rfl Try.underlying22 Try.sizeOf36 (c.n 1 rfl) hS.sl (c.n 2 rfl) (by omega) (by omega),
    Ob.d fun c => r_fieldAddr rfl Try.underlying36 rfl rfl Try.sizeOf9 (c.n 3 rfl),
    Ob.d fun c => r_load1 rfl Try.isAgg9 (c.n 4 rfl) (((hS.at (st6.ext.trans c.J.ext))).elem (j := 0) (nth_some (i := (k : Int)) (by omega) (by omega)) rfl),
    Ob.d fun c => r_move rfl (c.p e2),
    Ob.d fun c => r_move rfl (c.p e7),
    Ob.d fun c => r_indexAddr rfl Try.underlying22 Try.sizeOf36 (c.n 6 rfl) hS.sl (c.n 7 rfl) (by omega) (by omega),
    Ob.d fun c => r_fieldAddr rfl Try.underlying36 rfl rfl Try.sizeOf9 (c.n 8 rfl),
    Ob.d fun c => r_load1 rfl Try.isAgg9 (c.n 9 rfl) (((hS.at (st6.ext.trans c.J.ext))).elem (j := 1) (nth_some (i := (k : Int)) (by omega) (by omega)) rfl),
    Ob.buildSlice (cells := #[(.string ((nth xs ((k : Int))).1)), (.string ((nth xs ((k : Int))).2))]) rfl rfl rfl rfl Try.underlying50 Try.sizeOf9 Try.zeroValue9 rfl (by decide) (by decide) (fun _ _ _ _ c => fill2 (c.n 5 rfl) (c.n 10 rfl) (by kernel_rfl)) rfl,
    Ob.c fun c => ⟨_, _, (e_call2 rfl rfl Try.call24 (c.n 0 rfl) (eval_tmp _ 29)), long_c l _ ([(nth xs ((k : Int))).1, (nth xs ((k : Int))).2]) _ (c.ro 11 rfl).1.sl (by omega)⟩, trivial⟩ ?_
   intro a7 w7 τ7 st7 f7
   obtain ⟨b7x29, e29⟩ : ∃ b, get a7 29 = b := ⟨_, rfl⟩
   obtain ⟨e1, e2, e7, e15, -⟩ := f7.ks [(1, _), (2, _), (7, _), (15, _)] ⟨e1, e2, e7, e15, trivial⟩
   have e30 : get a7 30 = (.bool (longL l ([(nth xs ((k : Int))).1, (nth xs ((k : Int))).2]))) := f7.v 12 rfl
   have r0 : ownR StrE 9 ([(nth xs ((k : Int))).1, (nth xs ((k : Int))).2]) (τ7 0) b7x29 w7 := f7.ro 11 e29 rfl
   clear f7
   show Code.wp _ _ _ a7 w7
   refine wp_cond_split (t := longL l ([(nth xs ((k : Int))).1, (nth xs ((k : Int))).2])) e30 (fun hc3 => ?_) (fun hc3 => ?_)
   · skip
     refine wp_seq ?_
     refine region_St (bf := [0]) (sp := [det _ 6 _]) [io r0] mixed st7 (by kernel_rfl) ⟨r0, trivial⟩
      ⟨Ob.d fun c => r_assign rfl rfl, trivial⟩ ?_
     intro a8 w8 τ8 st8 f8
     obtain ⟨e1, e2, e7, e15, e30, -⟩ := f8.ks [(1, _), (2, _), (7, _), (15, _), (30, _)] ⟨e1, e2, e7, e15, e30, trivial⟩
     have e6 : get a8 6 = (.bool (true)) := f8.v 0 rfl
     replace r0 := f8.io 0 rfl
     clear f8
     show Code.wp _ _ _ a8 w8
     refine wp_ret ?_
     repeat (first | with_reducible refine then_ret ?_ | with_reducible refine block_ret ?_)
     refine ret1 (fn := Try.f9) rfl st8.defers e6 ?_
     exact ⟨congrArg _ (congrArg _ (by unfold muchR; first | (rw [decide_eq_true (by omega)]; rfl) | (rw [decide_eq_false (by omega), muchRL_hit (k := k) (by omega) q2 (by assumption)]; rfl) | (rw [decide_eq_false (by omega), muchRL_end (k := k) (by omega) q2]; rfl))), st8.ext0⟩
   skip
   refine wp_skip ?_
   show Code.wp _ _ _ a7 w7
   have h2l := long2 (n := l) (a := (nth xs (k : Int)).1) (b := (nth xs (k : Int)).2) (by assumption)
   refine region_St (bf := [0, 0, 0, 6, 14, 30, 62, 127, 0, 0, 768, 1792, 3840, 7936, 16383, 32767]) (sp := [det _ 31 _, det _ 32 _, det _ 33 _, det _ 34 _, det _ 35 _, det _ 36 _, det _ 37 _, det _ 38 _, det _ 39 _, det _ 40 _, det _ 41 _, det _ 42 _, det _ 43 _, det _ 44 _, det _ 45 _, det _ 1 _]) [io r0] mixed st7 (by kernel_rfl) ⟨r0, trivial⟩
    ⟨Ob.d fun c => r_move rfl (c.p e1),
    Ob.d fun c => r_move rfl (c.p e2),
    Ob.d fun c => r_move rfl (c.p e7),
    Ob.d fun c => r_indexAddr rfl Try.underlying22 Try.sizeOf36 (c.n 1 rfl) hS.sl (c.n 2 rfl) (by omega) (by omega),
    Ob.d fun c => r_fieldAddr rfl Try.underlying36 rfl rfl Try.sizeOf9 (c.n 3 rfl),
    Ob.d fun c => r_load1 rfl Try.isAgg9 (c.n 4 rfl) (((hS.at (st7.ext.trans c.J.ext))).elem (j := 0) (nth_some (i := (k : Int)) (by omega) (by omega)) rfl),
    Ob.d fun c => r_lenS rfl Try.underlying9 (c.n 5 rfl),
    Ob.d fun c => r_sub rfl (c.n 0 rfl) (c.n 6 rfl) (by omega),
    Ob.d fun c => r_move rfl (c.p e2),
    Ob.d fun c => r_move rfl (c.p e7),
    Ob.d fun c => r_indexAddr rfl Try.underlying22 Try.sizeOf36 (c.n 8 rfl) hS.sl (c.n 9 rfl) (by omega) (by omega),
    Ob.d fun c => r_fieldAddr rfl Try.underlying36 rfl rfl Try.sizeOf9 (c.n 10 rfl),
    Ob.d fun c => r_load1 rfl Try.isAgg9 (c.n 11 rfl) (((hS.at (st7.ext.trans c.J.ext))).elem (j := 1) (nth_some (i := (k : Int)) (by omega) (by omega)) rfl),
    Ob.d fun c => r_lenS rfl Try.underlying9 (c.n 12 rfl),
    Ob.d fun c => r_sub rfl (c.n 7 rfl) (c.n 13 rfl) (by omega),
    Ob.d fun c => r_assign rfl (c.n 14 rfl), trivial⟩ ?_
   intro a9 w9 τ9 st9 f9
   obtain ⟨e2, e7, e15, e30, -⟩ := f9.ks [(2, _), (7, _), (15, _), (30, _)] ⟨e2, e7, e15, e30, trivial⟩
   have e1 : get a9 1 = (.int .i64 (l - (((nth xs ((k : Int))).1).size : Int) - (((nth xs ((k : Int))).2).size : Int))) := f9.v 15 rfl
   replace r0 := f9.io 0 rfl
   clear f9
   show _
   show Code.wp _ _ _ a9 w9
   refine region_St (bf := [0, 1, 3]) (sp := [det _ 16 _, det _ 17 _, det _ 7 _]) [io r0] mixed st9 (by kernel_rfl) ⟨r0, trivial⟩
    ⟨Ob.d fun c => r_move rfl (c.p e7),
    Ob.d fun c => r_add rfl (c.n 0 rfl) rfl (by omega),
    Ob.d fun c => r_assign rfl (c.n 1 rfl), trivial⟩ ?_
   intro a10 w10 τ10 st10 f10
   obtain ⟨e1, e2, e15, e30, -⟩ := f10.ks [(1, _), (2, _), (15, _), (30, _)] ⟨e1, e2, e15, e30, trivial⟩
   have e7 : get a10 7 = (.int .i64 ((k : Int) + 1)) := f10.v 2 rfl
   replace r0 := f10.io 0 rfl
   clear f10
   refine ⟨⟨k + 1, l - (((nth xs ((k : Int))).1).size : Int) - (((nth xs ((k : Int))).2).size : Int), τ10, ?_, ?_, ?_, st10, (e1.trans (int_eq (by omega))), (e7.trans (int_eq (by omega))), e2⟩, ?_⟩
   · omega
   · omega
   · exact muchRL_next (by omega) q2 (by assumption)
   · simp only [m7, e7, intOf]; omega
 try simp only [decide_eq_false_iff_not, Int.not_lt] at hc2
 refine wp_exit ?_
 repeat (with_reducible refine then_exit ?_)
 refine exit_here ?_
 show Code.wp _ _ _ a6 w6
 refine wp_seq ?_
 refine region_St (bf := [0]) (sp := [det _ 6 _]) [] mixed st6 (by kernel_rfl) trivial
  ⟨Ob.d fun c => r_assign rfl rfl, trivial⟩ ?_
 intro a11 w11 τ11 st11 f11
 have e6 : get a11 6 = (.bool (false)) := f11.v 0 rfl
 clear f11
 show Code.wp _ _ _ a11 w11
 refine wp_ret ?_
 repeat (first | with_reducible refine then_ret ?_ | with_reducible refine block_ret ?_)
 refine ret1 (fn := Try.f9) rfl st11.defers e6 ?_
 exact ⟨congrArg _ (congrArg _ (by unfold muchR; first | (rw [decide_eq_true (by omega)]; rfl) | (rw [decide_eq_false (by omega), muchRL_hit (k := k) (by omega) q2 (by assumption)]; rfl) | (rw [decide_eq_false (by omega), muchRL_end (k := k) (by omega) q2]; rfl))), st11.ext0⟩

set_option maxRecDepth 100000 in
theorem properL_c (v : Value) (xs : List (ByteArray × ByteArray)) (w : World) (hS : SlT RowE w v xs) (hz : Small xs) (hbig : xs.length ≤ 1000000000) : Calls Try.prog 20 #[v] w (fun e w' => ∃ v', e = .returned v' ∧ Ext none' w w' ∧ NewT RowE 36 w w' v' (List.filter rowB xs)) := by
 refine enter (n := 46) Try.func20 rfl rfl (Nat.le_of_ble_eq_true rfl) ?_
 intro a0 τ0 ha st0
 have e0 : get a0 0 = v := ha 0 _ rfl
 clear ha
 have hle := hS.le
 refine wp_seq ?_
 refine region_St (bf := [0]) (sp := [det _ 2 _]) [] mixed st0 (by kernel_rfl) trivial
  ⟨Ob.d fun c => r_assign rfl rfl, trivial⟩ ?_
 intro a1 w1 τ1 st1 f1
 obtain ⟨e0, -⟩ := f1.ks [(0, _)] ⟨e0, trivial⟩
 have e2 : get a1 2 = (.slice none 0 0) := f1.v 0 rfl
 clear f1
 show Code.wp _ _ _ a1 w1
 refine wp_seq ?_
 refine region_St (bf := [0]) (sp := [det _ 3 _]) [] mixed st1 (by kernel_rfl) trivial
  ⟨Ob.d fun c => r_assign rfl rfl, trivial⟩ ?_
 intro a2 w2 τ2 st2 f2
 obtain ⟨e0, e2, -⟩ := f2.ks [(0, _), (2, _)] ⟨e0, e2, trivial⟩
 have e3 : get a2 3 = (.slice none 0 0) := f2.v 0 rfl
 clear f2
 show Code.wp _ _ _ a2 w2
 refine wp_seq ?_
 refine wp_seq ?_
 refine region_St (bf := [0]) (sp := [det _ 4 _]) [] mixed st2 (by kernel_rfl) trivial
  ⟨Ob.d fun c => r_assign rfl rfl, trivial⟩ ?_
 intro a3 w3 τ3 st3 f3
 obtain ⟨e0, e2, e3, -⟩ := f3.ks [(0, _), (2, _), (3, _)] ⟨e0, e2, e3, trivial⟩
 have e4 : get a3 4 = (.int .i64 (0)) := f3.v 0 rfl
 clear f3
 show Code.wp _ _ _ a3 w3
 refine wp_block ?_
 refine wp_loop (fun a_ w_ => ∃ (k : Nat) (u : Value) (τ : Nat → Foot), (k ≤ xs.length) ∧
      St (Nw w) w 46 a_ w_ τ ∧
      get a_ 3 = u ∧
      get a_ 4 = (.int .i64 ((k : Int))) ∧
      get a_ 0 = v ∧
      get a_ 2 = (.slice none 0 0) ∧
      ownR RowE 36 ((xs.take k).filter rowB) (τ 0) u w_) (fun a_ _ => xs.length - (intOf (get a_ 4)).toNat) ?_ ?_
 · refine ⟨0, (.slice none 0 0), τ3, ?_, st3, e3, (e4.trans (int_eq (by omega))), e0, e2, ?_⟩
   · omega
   · exact ownR.nil _ _ _ _
 intro a4 w4 hI
 obtain ⟨k, u, τ4, q0, st4, e3, e4, e0, e2, r0⟩ := hI
 have hfl := filter_le (f := rowB) (xs := xs) (k := k)
 have hzk := small_at hz (k := k)
 have m4 := e4
 refine wp_seq ?_
 refine wp_seq ?_
 refine region_St (bf := [0, 0, 2, 7]) (sp := [det _ 5 _, det _ 6 _, det _ 7 _, det _ 8 _]) [io r0] mixed st4 (by kernel_rfl) ⟨r0, trivial⟩
  ⟨Ob.d fun c => r_move rfl (c.p e4),
  Ob.d fun c => r_move rfl (c.p e0),
  Ob.d fun c => r_len rfl Try.underlying22 (c.n 1 rfl) hS.sl,
  Ob.d fun c => r_lss rfl (c.n 0 rfl) (c.n 2 rfl), trivial⟩ ?_
 intro a5 w5 τ5 st5 f5
 obtain ⟨e0, e2, e3, e4, -⟩ := f5.ks [(0, _), (2, _), (3, _), (4, _)] ⟨e0, e2, e3, e4, trivial⟩
 have e8 : get a5 8 = (.bool (decide ((k : Int) < (xs.length : Int)))) := f5.v 3 rfl
 replace r0 := f5.io 0 rfl
 clear f5
 show Code.wp _ _ _ a5 w5
 refine wp_cond_split (t := decide ((k : Int) < (xs.length : Int))) e8 (fun hc1 => ?_) (fun hc1 => ?_)
 · try simp only [decide_eq_true_eq] at hc1
   refine wp_skip ?_
   show Code.wp _ _ _ a5 w5
   refine wp_seq ?_
   refine wp_block ?_
   refine wp_seq ?_
   refine region_St (bf := [0, 0, 3, 7, 15, 31, 63, 127, 127, 511, 1023, 2047, 4095, 8191, 16383, 32767, 32767, 131071, 262143, 524287, 32767, 32767, 3178495, 7372799, 15761407, 33554431, 67108863]) (sp := [det _ 11 _, det _ 12 _, det _ 13 _, det _ 14 _, det _ 15 _, det _ 16 _, det _ 17 _, gdet _ 18 _ _, gdet _ 19 _ _, gdet _ 20 _ _, gdet _ 21 _ _, gdet _ 22 _ _, gdet _ 23 _ _, det _ 24 _, det _ 25 _, gdet _ 26 _ _, gdet _ 27 _ _, gdet _ 28 _ _, gdet _ 29 _ _, gdet _ 30 _ _, gdet _ 31 _ _, gdet _ 32 _ _, gdet _ 33 _ _, gdet _ 34 _ _, gdet _ 35 _ _, gdet _ 36 _ _, det _ 37 _]) [io r0] mixed st5 (by kernel_rfl) ⟨r0, trivial⟩
    ⟨Ob.d fun c => r_move rfl (c.p e0),
    Ob.d fun c => r_move rfl (c.p e4),
    Ob.d fun c => r_indexAddr rfl Try.underlying22 Try.sizeOf36 (c.n 0 rfl) hS.sl (c.n 1 rfl) (by omega) (by omega),
    Ob.d fun c => r_fieldAddr rfl Try.underlying36 rfl rfl Try.sizeOf9 (c.n 2 rfl),
    Ob.d fun c => r_load1 rfl Try.isAgg9 (c.n 3 rfl) (((hS.at (st5.ext.trans c.J.ext))).elem (j := 0) (nth_some (i := (k : Int)) (by omega) (by omega)) rfl),
    Ob.c fun c => ⟨_, _, (e_call1 rfl rfl Try.call26 (c.n 4 rfl)), refProper_c ((nth xs ((k : Int))).1) _ (by omega)⟩,
    Ob.d fun c => r_move rfl (c.n 5 rfl),
    Ob.g 6 true rfl fun c hpc => r_move rfl (c.p e0),
    Ob.g 6 true rfl fun c hpc => r_move rfl (c.p e4),
    Ob.g 6 true rfl fun c hpc => r_indexAddr rfl Try.underlying22 Try.sizeOf36 (c.m 7 rfl hpc) hS.sl (c.m 8 rfl hpc) (by have hq0 := hpc; omega) (by have hq0 := hpc; omega),
    Ob.g 6 true rfl fun c hpc => r_fieldAddr rfl Try.underlying36 rfl rfl Try.sizeOf9 (c.m 9 rfl hpc),
    Ob.g 6 true rfl fun c hpc => r_load1 rfl Try.isAgg9 (c.m 10 rfl hpc) (((hS.at (st5.ext.trans c.J.ext))).elem (j := 1) (nth_some (i := (k : Int)) (by have hq0 := hpc; omega) (by have hq0 := hpc; omega)) rfl),
    Ob.gc 6 true rfl fun c hpc => ⟨_, _, (e_call1 rfl rfl Try.call26 (c.m 11 rfl hpc)), refProper_c ((nth xs ((k : Int))).2) _ (by have hq0 := hpc; omega)⟩,
    Ob.d fun c => r_and rfl (c.n 6 rfl) (fun h => c.m 12 rfl h),
    Ob.d fun c => r_move rfl (c.n 13 rfl),
    Ob.g 14 true rfl fun c hpc => r_move rfl (c.p e0),
    Ob.g 14 true rfl fun c hpc => r_move rfl (c.p e4),
    Ob.g 14 true rfl fun c hpc => r_indexAddr rfl Try.underlying22 Try.sizeOf36 (c.m 15 rfl hpc) hS.sl (c.m 16 rfl hpc) (by have hq0 := hpc; (try simp only [Bool.and_eq_true] at hq0); omega) (by have hq0 := hpc; (try simp only [Bool.and_eq_true] at hq0); omega),
    Ob.g 14 true rfl fun c hpc => r_fieldAddr rfl Try.underlying36 rfl rfl Try.sizeOf9 (c.m 17 rfl hpc),
    Ob.g 14 true rfl fun c hpc => r_load1 rfl Try.isAgg9 (c.m 18 rfl hpc) (((hS.at (st5.ext.trans c.J.ext))).elem (j := 0) (nth_some (i := (k : Int)) (by have hq0 := hpc; (try simp only [Bool.and_eq_true] at hq0); omega) (by have hq0 := hpc; (try simp only [Bool.and_eq_true] at hq0); omega)) rfl),
    Ob.g 14 true rfl fun c hpc => r_move rfl (c.p e0),
    Ob.g 14 true rfl fun c hpc => r_move rfl (c.p e4),
    Ob.g 14 true rfl fun c hpc => r_indexAddr rfl Try.underlying22 Try.sizeOf36 (c.m 20 rfl hpc) hS.sl (c.m 21 rfl hpc) (by have hq0 := hpc; (try simp only [Bool.and_eq_true] at hq0); omega) (by have hq0 := hpc; (try simp only [Bool.and_eq_true] at hq0); omega),
    Ob.g 14 true rfl fun c hpc => r_fieldAddr rfl Try.underlying36 rfl rfl Try.sizeOf9 (c.m 22 rfl hpc),
    Ob.g 14 true rfl fun c hpc => r_load1 rfl Try.isAgg9 (c.m 23 rfl hpc) (((hS.at (st5.ext.trans c.J.ext))).elem (j := 1) (nth_some (i := (k : Int)) (by have hq0 := hpc; (try simp only [Bool.and_eq_true] at hq0); omega) (by have hq0 := hpc; (try simp only [Bool.and_eq_true] at hq0); omega)) rfl),
    Ob.g 14 true rfl fun c hpc => r_sleq rfl (c.m 19 rfl hpc) (c.m 24 rfl hpc),
    Ob.d fun c => r_and rfl (c.n 14 rfl) (fun h => c.m 25 rfl h), trivial⟩ ?_
   intro a6 w6 τ6 st6 f6
   obtain ⟨e0, e2, e3, e4, e8, -⟩ := f6.ks [(0, _), (2, _), (3, _), (4, _), (8, _)] ⟨e0, e2, e3, e4, e8, trivial⟩
   have e37 : get a6 37 = (.bool (((properB ((nth xs ((k : Int))).1)) && (properB ((nth xs ((k : Int))).2))) && (leT ((nth xs ((k : Int))).1) ((nth xs ((k : Int))).2)))) := f6.v 26 rfl
   replace r0 := f6.io 0 rfl
   clear f6
   show Code.wp _ _ _ a6 w6
   refine wp_cond_split (t := ((properB ((nth xs ((k : Int))).1)) && (properB ((nth xs ((k : Int))).2))) && (leT ((nth xs ((k : Int))).1) ((nth xs ((k : Int))).2))) e37 (fun hc2 => ?_) (fun hc2 => ?_)
   · have hd2 := hc2; try simp only [Bool.and_eq_true] at hd2
     refine region_St (bf := [0, 0, 0, 6, 14, 30, 63, 127]) (sp := [det _ 38 _, det _ 39 _, det _ 40 _, det _ 41 _, det _ 42 _, own RowE 36 _ 1 43 ([(nth xs ((k : Int)))]), own _ _ _ 0 44 _, own _ _ _ 0 3 _]) [io r0] mixed st6 (by kernel_rfl) ⟨r0, trivial⟩
      ⟨Ob.d fun c => r_move rfl (c.p e3),
      Ob.d fun c => r_move rfl (c.p e0),
      Ob.d fun c => r_move rfl (c.p e4),
      Ob.d fun c => r_indexAddr rfl Try.underlying22 Try.sizeOf36 (c.n 1 rfl) hS.sl (c.n 2 rfl) (by omega) (by omega),
      Ob.d fun c => r_loadN (vs := [(.string ((nth xs ((k : Int))).1)), (.string ((nth xs ((k : Int))).2))]) rfl Try.isAgg36 Try.sizeOf36 (c.n 3 rfl) rfl (fun _ _ hj => ((hS.at (st6.ext.trans c.J.ext))).elem (nth_some (i := (k : Int)) (by omega) (by omega)) hj),
      Ob.buildSlice (cells := #[(.string ((nth xs ((k : Int))).1)), (.string ((nth xs ((k : Int))).2))]) rfl rfl rfl rfl Try.underlying22 Try.sizeOf36 Try.zeroValue36 rfl (by decide) (by decide) (fun _ _ _ _ c => fill1 (c.n 4 rfl) (by kernel_rfl)) rfl,
      Ob.append (t0 := 3) rfl rfl rfl rfl Try.underlying22 (i := Try.t36) rfl rfl rfl rfl (by simp only [maxLen]; (try simp); omega) (by show _ * 32 ≤ _; (try simp); omega) (fun _ _ _ _ c => ⟨c.ip 0 rfl e3, c.sm (c.n 0 rfl) e3, ⟨_, rfl, (c.ro 5 rfl).1.sl⟩⟩),
      Ob.moveT (t0 := 44) rfl rfl rfl rfl rfl (.inr rfl) (fun _ _ _ _ c => ⟨c.ro 6 rfl, rfl⟩), trivial⟩ ?_
     intro a7 w7 τ7 st7 f7
     obtain ⟨b7x43, e43⟩ : ∃ b, get a7 43 = b := ⟨_, rfl⟩
     obtain ⟨b7x3, e3⟩ : ∃ b, get a7 3 = b := ⟨_, rfl⟩
     obtain ⟨e0, e2, e4, e8, e37, -⟩ := f7.ks [(0, _), (2, _), (4, _), (8, _), (37, _)] ⟨e0, e2, e4, e8, e37, trivial⟩
     replace r0 : ownR RowE 36 (((xs.take k).filter rowB) ++ ([(nth xs ((k : Int)))])) (τ7 0) b7x3 w7 := f7.ro 7 e3 rfl
     have r1 : ownR RowE 36 ([(nth xs ((k : Int)))]) (τ7 1) b7x43 w7 := f7.ro 5 e43 rfl
     clear f7
     show _
     show Code.wp _ _ _ a7 w7
     refine region_St (bf := [0, 1, 3]) (sp := [det _ 9 _, det _ 10 _, det _ 4 _]) [io r0, io r1] mixed st7 (by kernel_rfl) ⟨r0, r1, trivial⟩
      ⟨Ob.d fun c => r_move rfl (c.p e4),
      Ob.d fun c => r_add rfl (c.n 0 rfl) rfl (by omega),
      Ob.d fun c => r_assign rfl (c.n 1 rfl), trivial⟩ ?_
     intro a8 w8 τ8 st8 f8
     obtain ⟨e0, e2, e3, e8, e37, -⟩ := f8.ks [(0, _), (2, _), (3, _), (8, _), (37, _)] ⟨e0, e2, e3, e8, e37, trivial⟩
     have e4 : get a8 4 = (.int .i64 ((k : Int) + 1)) := f8.v 2 rfl
     replace r0 := f8.io 0 rfl
     replace r1 := f8.io 1 rfl
     clear f8
     refine ⟨⟨k + 1, b7x3, τ8, ?_, st8, e3, (e4.trans (int_eq (by omega))), e0, e2, ?_⟩, ?_⟩
     · omega
     · exact r0.cast (by first | exact filter_t (by omega) (by assumption) | exact filter_f (by omega) (by assumption))
     · simp only [m4, e4, intOf]; omega
   have hd2 := hc2; try simp only [Bool.and_eq_false_iff] at hd2
   refine wp_skip ?_
   show _
   show Code.wp _ _ _ a6 w6
   refine region_St (bf := [0, 1, 3]) (sp := [det _ 9 _, det _ 10 _, det _ 4 _]) [io r0] mixed st6 (by kernel_rfl) ⟨r0, trivial⟩
    ⟨Ob.d fun c => r_move rfl (c.p e4),
    Ob.d fun c => r_add rfl (c.n 0 rfl) rfl (by omega),
    Ob.d fun c => r_assign rfl (c.n 1 rfl), trivial⟩ ?_
   intro a9 w9 τ9 st9 f9
   obtain ⟨e0, e2, e3, e8, e37, -⟩ := f9.ks [(0, _), (2, _), (3, _), (8, _), (37, _)] ⟨e0, e2, e3, e8, e37, trivial⟩
   have e4 : get a9 4 = (.int .i64 ((k : Int) + 1)) := f9.v 2 rfl
   replace r0 := f9.io 0 rfl
   clear f9
   refine ⟨⟨k + 1, u, τ9, ?_, st9, e3, (e4.trans (int_eq (by omega))), e0, e2, ?_⟩, ?_⟩
   · omega
   · exact r0.cast (by first | exact filter_t (by omega) (by assumption) | exact filter_f (by omega) (by assumption))
   · simp only [m4, e4, intOf]; omega
 try simp only [decide_eq_false_iff_not, Int.not_lt] at hc1
 refine wp_exit ?_
 repeat (with_reducible refine then_exit ?_)
 refine exit_here ?_
 show Code.wp _ _ _ a5 w5
 refine wp_seq ?_
 refine region_St (bf := [0, 1]) (sp := [det _ 45 _, det _ 2 _]) [io r0] mixed st5 (by kernel_rfl) ⟨r0, trivial⟩
  ⟨Ob.d fun c => r_move rfl (c.p e3),
  Ob.d fun c => r_assign rfl (c.n 0 rfl), trivial⟩ ?_
 intro a10 w10 τ10 st10 f10
 have e2 : get a10 2 = u := f10.v 1 rfl
 replace r0 := f10.io 0 rfl
 clear f10
 show Code.wp _ _ _ a10 w10
 refine wp_ret ?_
 repeat (first | with_reducible refine then_ret ?_ | with_reducible refine block_ret ?_)
 refine ret1 (fn := Try.f20) rfl st10.defers e2 ?_
 replace r0 := r0.cast (show List.filter rowB xs = _ from by rw [List.take_of_length_le (by omega)])
 exact ⟨_, rfl, st10.ext0, r0.1, fun g_ h_ => (st10.bnd _ g_ (r0.2 g_ h_)).1⟩

set_option maxRecDepth 100000 in
theorem awake_c  (w : World) : Calls Try.prog 10 #[] w (fun e w' => e = .returned (.bool (true)) ∧ Ext none' w w') := by
 refine enter (n := 28) Try.func10 rfl rfl (Nat.le_of_ble_eq_true rfl) ?_
 intro a0 τ0 ha st0
 clear ha
 refine wp_seq ?_
 refine region_St (bf := [0]) (sp := [det _ 0 _]) [] mixed st0 (by kernel_rfl) trivial
  ⟨Ob.d fun c => r_assign rfl rfl, trivial⟩ ?_
 intro a1 w1 τ1 st1 f1
 have e0 : get a1 0 = (.bool (false)) := f1.v 0 rfl
 clear f1
 show Code.wp _ _ _ a1 w1
 refine wp_seq ?_
 refine region_St (bf := [0, 1, 3, 3, 7, 31]) (sp := [tup _ _ _ 0 4 _ _, tup _ _ _ 0 3 _ _, own _ _ _ 0 5 _, det _ 6 _, own _ _ _ 0 1 _, det _ 2 _]) [] mixed st1 (by kernel_rfl) trivial
  ⟨Ob.callTup rfl rfl rfl (fun _ a_ _ _ c => ⟨_, _, (e_call1 rfl rfl Try.call18 rfl), named_c 119 _⟩),
  Ob.moveT (t0 := 4) rfl rfl rfl rfl rfl (.inl rfl) (fun _ _ _ _ c => ⟨c.rtup 0 rfl rfl (by kernel_rfl), rfl⟩),
  Ob.part0 (t0 := 3) (k := (.bool (namedB 119))) rfl rfl rfl rfl (fun _ _ _ _ c => c.rtup 1 rfl rfl (by kernel_rfl)),
  Ob.d fun c => c.part1 1 rfl rfl rfl,
  Ob.moveT (t0 := 5) rfl rfl rfl rfl rfl (.inr rfl) (fun _ _ _ _ c => ⟨c.ro 2 rfl, rfl⟩),
  Ob.d fun c => r_assign rfl (c.n 3 rfl), trivial⟩ ?_
 intro a2 w2 τ2 st2 f2
 obtain ⟨b2x1, e1⟩ : ∃ b, get a2 1 = b := ⟨_, rfl⟩
 obtain ⟨e0, -⟩ := f2.ks [(0, _)] ⟨e0, trivial⟩
 have e2 : get a2 2 = (.bool (namedB 119)) := f2.v 5 rfl
 have r0 : ownR RowE 36 (namedF 119) (τ2 0) b2x1 w2 := f2.ro 4 e1 rfl
 clear f2
 replace r0 := r0.cast (show [((⟨#[48]⟩ : ByteArray), (⟨#[57]⟩ : ByteArray)), (⟨#[65]⟩, ⟨#[90]⟩), (⟨#[95]⟩, ⟨#[95]⟩), (⟨#[97]⟩, ⟨#[122]⟩)] = namedF 119 from by rfl)
 replace e2 := e2.trans (congrArg Value.bool (show namedB 119 = true from by decide))
 show Code.wp _ _ _ a2 w2
 refine wp_seq ?_
 refine region_St (bf := [0, 1, 3, 7, 15, 31, 63, 127, 255, 511, 1023, 2047, 4095, 8191, 16383, 32767, 65535, 131071, 262143, 524287, 1048575, 2097151]) (sp := [det _ 7 _, det _ 8 _, det _ 9 _, det _ 10 _, det _ 11 (.bool (true)), det _ 12 _, det _ 13 _, det _ 14 _, own RowE 36 _ 1 15 ([((⟨#[97]⟩ : ByteArray), (⟨#[102]⟩ : ByteArray))]), det _ 16 (.bool (true)), det _ 17 _, det _ 18 _, det _ 19 _, det _ 20 (.bool (true)), det _ 21 _, det _ 22 _, det _ 23 _, own _ _ _ 2 24 _, det _ 25 _, det _ 26 (.bool (true)), det _ 27 _, det _ 0 _]) [io r0] mixed st2 (by kernel_rfl) ⟨r0, trivial⟩
  ⟨Ob.d fun c => r_move rfl (c.p e2),
  Ob.d fun c => r_move rfl (c.n 0 rfl),
  Ob.lv 1 (Ob.d fun c => r_move rfl (c.p e1)),
  Ob.lv 1 (Ob.d fun c => r_len rfl Try.underlying22 (c.n 2 rfl) r0.isSl),
  Ob.lv 1 (Ob.d (v := (.bool (true))) fun c => Runs.isB (b := decide ((([((⟨#[48]⟩ : ByteArray), (⟨#[57]⟩ : ByteArray)), (⟨#[65]⟩, ⟨#[90]⟩), (⟨#[95]⟩, ⟨#[95]⟩), (⟨#[97]⟩, ⟨#[122]⟩)]).length : Int) = 4)) (r_eql rfl (c.n 3 rfl) rfl) (by decide +kernel)),
  Ob.d fun c => r_pick rfl (c.n 1 rfl) (fun _ => c.n 4 rfl) (fun h => by cases h),
  Ob.d fun c => r_move rfl (c.n 5 rfl),
  Ob.lv 6 (Ob.d fun c => r_build (cells := #[(.string ((⟨#[97]⟩ : ByteArray))), (.string ((⟨#[102]⟩ : ByteArray)))]) rfl Try.underlying36 Try.zeroValue36 (pl := #[(0, 1), (1, 1)]) (fun w_ => by simp [Try.sizeOf9]) (fill2 rfl rfl rfl)),
  Ob.lv 6 (Ob.buildSlice (cells := #[(.string ((⟨#[97]⟩ : ByteArray))), (.string ((⟨#[102]⟩ : ByteArray)))]) rfl rfl rfl rfl Try.underlying22 Try.sizeOf36 Try.zeroValue36 rfl (by decide) (by decide) (fun _ _ _ _ c => fill1 (c.n 7 rfl) (by kernel_rfl)) rfl),
  Ob.lv 6 (Ob.c (v := (.bool (true))) fun c => ⟨_, _, (e_call4 rfl rfl Try.call16 (eval_tmp _ 15) rfl rfl rfl), Calls.isB (b := hasF ([((⟨#[97]⟩ : ByteArray), (⟨#[102]⟩ : ByteArray))]) false true (⟨#[66]⟩ : ByteArray)) (has_c _ ([((⟨#[97]⟩ : ByteArray), (⟨#[102]⟩ : ByteArray))]) false true (⟨#[66]⟩ : ByteArray) _ (c.ro 8 rfl).1.sl (by first | omega | (simp only [List.length_cons, List.length_nil]; omega) | decide | (decide +kernel))) (by decide +kernel)⟩),
  Ob.d fun c => r_pick rfl (c.n 6 rfl) (fun _ => c.n 9 rfl) (fun h => by cases h),
  Ob.d fun c => r_move rfl (c.n 10 rfl),
  Ob.lv 11 (Ob.d fun c => r_move rfl (c.p e1)),
  Ob.lv 11 (Ob.c (v := (.bool (true))) fun c => ⟨_, _, (e_call1 rfl rfl Try.call11 (c.n 12 rfl)), Calls.isB (b := mayRow ([((⟨#[48]⟩ : ByteArray), (⟨#[57]⟩ : ByteArray)), (⟨#[65]⟩, ⟨#[90]⟩), (⟨#[95]⟩, ⟨#[95]⟩), (⟨#[97]⟩, ⟨#[122]⟩)])) (mayR_c b2x1 ([((⟨#[48]⟩ : ByteArray), (⟨#[57]⟩ : ByteArray)), (⟨#[65]⟩, ⟨#[90]⟩), (⟨#[95]⟩, ⟨#[95]⟩), (⟨#[97]⟩, ⟨#[122]⟩)]) _ (c.io 0 rfl).1.sl (by first | assumption | (unfold Small; decide)) (by first | omega | (simp only [List.length_cons, List.length_nil]; omega) | decide | (decide +kernel))) (by decide +kernel)⟩),
  Ob.d fun c => r_pick rfl (c.n 11 rfl) (fun _ => c.n 13 rfl) (fun h => by cases h),
  Ob.d fun c => r_move rfl (c.n 14 rfl),
  Ob.lv 15 (Ob.d fun c => r_move rfl (c.p e1)),
  Ob.lv 15 (Ob.callOwn rfl rfl rfl (fun _ a_ _ _ c => ⟨_, _, (e_call1 rfl rfl Try.call14 (c.n 16 rfl)), union_c b2x1 ([((⟨#[48]⟩ : ByteArray), (⟨#[57]⟩ : ByteArray)), (⟨#[65]⟩, ⟨#[90]⟩), (⟨#[95]⟩, ⟨#[95]⟩), (⟨#[97]⟩, ⟨#[122]⟩)]) _ (c.io 0 rfl).1.sl (by first | assumption | (unfold Small; decide)) (by first | omega | (simp only [List.length_cons, List.length_nil]; omega) | decide | (decide +kernel))⟩)),
  Ob.lv 15 (Ob.d fun c => r_len rfl Try.underlying22 rfl (c.ro 17 rfl).isSl),
  Ob.lv 15 (Ob.d (v := (.bool (true))) fun c => Runs.isB (b := decide (((unionT ([((⟨#[48]⟩ : ByteArray), (⟨#[57]⟩ : ByteArray)), (⟨#[65]⟩, ⟨#[90]⟩), (⟨#[95]⟩, ⟨#[95]⟩), (⟨#[97]⟩, ⟨#[122]⟩)])).length : Int) = 4)) (r_eql rfl (c.n 18 rfl) rfl) (by decide +kernel)),
  Ob.d fun c => r_pick rfl (c.n 15 rfl) (fun _ => c.n 19 rfl) (fun h => by cases h),
  Ob.d fun c => r_assign rfl (c.n 20 rfl), trivial⟩ ?_
 intro a3 w3 τ3 st3 f3
 obtain ⟨b3x15, e15⟩ : ∃ b, get a3 15 = b := ⟨_, rfl⟩
 obtain ⟨b3x24, e24⟩ : ∃ b, get a3 24 = b := ⟨_, rfl⟩
 have e0 : get a3 0 = (.bool (true)) := f3.v 21 rfl
 clear f3
 show Code.wp _ _ _ a3 w3
 refine wp_ret ?_
 repeat (first | with_reducible refine then_ret ?_ | with_reducible refine block_ret ?_)
 refine ret1 (fn := Try.f10) rfl st3.defers e0 ?_
 exact ⟨rfl, st3.ext0⟩
end B
end Go.Proofs.Ythaeepiichphjaa
