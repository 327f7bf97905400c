/-
  Walks, printed by a program (gen.py): TrG.
-/
import Derived.Test.YtocmchlhbniloaaTrS
set_option linter.unusedSimpArgs false
set_option linter.unusedVariables false
namespace Go.Proofs.Ytocmchlhbniloaa
namespace B
open Go.RowKit
open Srt
set_option maxRecDepth 100000 in
theorem row_c (r : ByteArray × ByteArray) (w : World) (h1 : r.1.size ≤ 1000000000) (h2 : r.2.size ≤ 1000000000) : Calls Try.prog 59 #[(.agg #[(.string (r.1)), (.string (r.2))])] w (fun e w' => e = .returned (.bool (rowB r)) ∧ Ext none' w w') := by
 refine enter (n := 18) Try.func59 rfl rfl (Nat.le_of_ble_eq_true rfl) ?_
 intro a0 τ0 ha st0
 have e0 : get a0 0 = (.agg #[(.string (r.1)), (.string (r.2))]) := ha 0 _ rfl
 clear ha
 refine wp_seq ?_
 refine region_St (bf := [0, 0]) (sp := [box _ _ 0 1 [(.string (r.1)), (.string (r.2))], det _ 2 _]) [] mixed st0 (by kernel_rfl) trivial
  ⟨Ob.box (v := (.agg #[(.string (r.1)), (.string (r.2))])) rfl rfl rfl rfl rfl (fun _ _ _ _ c => (c.p e0)),
  Ob.d fun c => r_assign rfl rfl, trivial⟩ ?_
 intro a1 w1 τ1 st1 f1
 obtain ⟨b1x1, e1⟩ : ∃ b, get a1 1 = b := ⟨_, rfl⟩
 have e2 : get a1 2 = (.bool (false)) := f1.v 1 rfl
 have r0 : boxR 43 [(.string (r.1)), (.string (r.2))] (τ1 0) b1x1 w1 := f1.rb 0 e1 rfl
 clear f1
 show Code.wp _ _ _ a1 w1
 refine wp_seq ?_
 refine region_St (bf := [0, 1, 3, 7, 15, 31, 63, 127, 255, 511, 1023, 511, 2559, 8191, 16383, 32767]) (sp := [det _ 3 _, det _ 4 _, det _ 5 _, det _ 6 _, gdet _ 7 _ _, gdet _ 8 _ _, gdet _ 9 _ _, det _ 10 _, det _ 11 _, gdet _ 12 _ _, gdet _ 13 _ _, gdet _ 14 _ _, gdet _ 15 _ _, gdet _ 16 _ _, det _ 17 _, det _ 2 _]) [ib r0] mixed st1 (by kernel_rfl) ⟨r0, trivial⟩
  ⟨Ob.d fun c => r_fieldAddr rfl Try.underlying43 rfl rfl Try.sizeOf9 ((c.p e1).trans r0.ptr),
  Ob.d fun c => r_load1 rfl Try.isAgg9 (c.n 0 rfl) ((c.ib 0 rfl).cell (j := 0) rfl),
  Ob.c fun c => ⟨_, _, (e_call1 rfl rfl Try.call51 (c.n 1 rfl)), proper_c r.1 _ (by omega)⟩,
  Ob.d fun c => r_move rfl (c.n 2 rfl),
  Ob.g 3 true rfl fun c hpc => r_fieldAddr rfl Try.underlying43 rfl rfl Try.sizeOf9 ((c.p e1).trans r0.ptr),
  Ob.g 3 true rfl fun c hpc => r_load1 rfl Try.isAgg9 (c.m 4 rfl hpc) ((c.ib 0 rfl).cell (j := 1) rfl),
  Ob.gc 3 true rfl fun c hpc => ⟨_, _, (e_call1 rfl rfl Try.call51 (c.m 5 rfl hpc)), proper_c r.2 _ (by have hq0 := hpc; omega)⟩,
  Ob.d fun c => r_and rfl (c.n 3 rfl) (fun h => c.m 6 rfl h),
  Ob.d fun c => r_move rfl (c.n 7 rfl),
  Ob.g 8 true rfl fun c hpc => r_fieldAddr rfl Try.underlying43 rfl rfl Try.sizeOf9 ((c.p e1).trans r0.ptr),
  Ob.g 8 true rfl fun c hpc => r_load1 rfl Try.isAgg9 (c.m 9 rfl hpc) ((c.ib 0 rfl).cell (j := 0) rfl),
  Ob.g 8 true rfl fun c hpc => r_fieldAddr rfl Try.underlying43 rfl rfl Try.sizeOf9 ((c.p e1).trans r0.ptr),
  Ob.g 8 true rfl fun c hpc => r_load1 rfl Try.isAgg9 (c.m 11 rfl hpc) ((c.ib 0 rfl).cell (j := 1) rfl),
  Ob.g 8 true rfl fun c hpc => r_sleq rfl (c.m 10 rfl hpc) (c.m 12 rfl hpc),
  Ob.d fun c => r_and rfl (c.n 8 rfl) (fun h => c.m 13 rfl h),
  Ob.d fun c => r_assign rfl (c.n 14 rfl), trivial⟩ ?_
 intro a2 w2 τ2 st2 f2
 have e2 : get a2 2 = (.bool (((properB r.1) && (properB r.2)) && (leT r.1 r.2))) := f2.v 15 rfl
 clear f2
 show Code.wp _ _ _ a2 w2
 refine wp_ret ?_
 repeat (first | with_reducible refine then_ret ?_ | with_reducible refine block_ret ?_)
 refine ret1 (fn := Try.f59) rfl st2.defers e2 ?_
 exact ⟨rfl, st2.ext0⟩

set_option maxRecDepth 100000 in
theorem mayR_c (v : Value) (xs : List (ByteArray × ByteArray)) (w : World) (hS : SlT RowE w v xs) (hz : Small xs) (hbig : xs.length ≤ 1000000000) : Calls Try.prog 52 #[v] w (fun e w' => e = .returned (.bool (mayRow xs)) ∧ Ext none' w w') := by
 refine enter (n := 31) Try.func52 rfl rfl (Nat.le_of_ble_eq_true rfl) ?_
 intro a0 τ0 ha st0
 have e0 : get a0 0 = v := ha 0 _ rfl
 clear ha
 have hle := hS.le
 refine wp_seq ?_
 refine region_St (bf := [0]) (sp := [det _ 2 _]) [] mixed st0 (by kernel_rfl) trivial
  ⟨Ob.d fun c => r_assign rfl rfl, trivial⟩ ?_
 intro a1 w1 τ1 st1 f1
 obtain ⟨e0, -⟩ := f1.ks [(0, _)] ⟨e0, trivial⟩
 have e2 : get a1 2 = (.bool (false)) := f1.v 0 rfl
 clear f1
 show Code.wp _ _ _ a1 w1
 refine wp_seq ?_
 refine wp_seq ?_
 refine region_St (bf := [0, 1, 0]) (sp := [det _ 5 _, det _ 6 _, det _ 7 _]) [] mixed st1 (by kernel_rfl) trivial
  ⟨Ob.d fun c => r_move rfl (c.p e0),
  Ob.d fun c => r_len rfl Try.underlying22 (c.n 0 rfl) hS.sl,
  Ob.d fun c => r_move rfl rfl, trivial⟩ ?_
 intro a2 w2 τ2 st2 f2
 obtain ⟨e0, e2, -⟩ := f2.ks [(0, _), (2, _)] ⟨e0, e2, trivial⟩
 have e5 : get a2 5 = v := f2.v 0 rfl
 have e6 : get a2 6 = (.int .i64 ((xs.length : Int))) := f2.v 1 rfl
 have e7 : get a2 7 = (.int .i64 (0)) := f2.v 2 rfl
 clear f2
 show Code.wp _ _ _ a2 w2
 refine wp_block ?_
 refine wp_loop (fun a_ w_ => ∃ (k : Nat) (τ : Nat → Foot), (k ≤ xs.length) ∧
      (∀ i < k, badRow xs ((i : Nat) : Int) = false) ∧
      St (Nw w) w 31 a_ w_ τ ∧
      get a_ 7 = (.int .i64 ((k : Int))) ∧
      get a_ 0 = v ∧
      get a_ 5 = v ∧
      get a_ 6 = (.int .i64 ((xs.length : Int)))) (fun a_ _ => xs.length - (intOf (get a_ 7)).toNat) ?_ ?_
 · refine ⟨0, τ2, ?_, ?_, st2, (e7.trans (int_eq (by omega))), e0, e5, e6⟩
   · omega
   · intro i hi; omega
 intro a3 w3 hI
 obtain ⟨k, τ3, q0, q1, st3, e7, e0, e5, e6⟩ := hI
 have hzk := small_at hz (k := k)
 have m7 := e7
 refine wp_seq ?_
 refine region_St (bf := [0]) (sp := [det _ 8 _]) [] mixed st3 (by kernel_rfl) trivial
  ⟨Ob.d fun c => r_lss rfl (c.p e7) (c.p e6), trivial⟩ ?_
 intro a4 w4 τ4 st4 f4
 obtain ⟨e0, e5, e6, e7, -⟩ := f4.ks [(0, _), (5, _), (6, _), (7, _)] ⟨e0, e5, e6, e7, trivial⟩
 have e8 : get a4 8 = (.bool (decide ((k : Int) < (xs.length : Int)))) := f4.v 0 rfl
 clear f4
 show Code.wp _ _ _ a4 w4
 refine wp_seq ?_
 refine wp_cond_split (t := decide ((k : Int) < (xs.length : Int))) e8 (fun hc1 => ?_) (fun hc1 => ?_)
 · try simp only [decide_eq_true_eq] at hc1
   refine wp_skip ?_
   show Code.wp _ _ _ a4 w4
   refine wp_seq ?_
   refine wp_block ?_
   refine wp_seq ?_
   refine region_St (bf := [0, 0, 2, 0, 15, 31]) (sp := [det _ 9 _, det _ 10 _, det _ 11 _, box _ _ 0 4 [(.string ((⟨#[]⟩ : ByteArray))), (.string ((⟨#[]⟩ : ByteArray)))], det _ 3 _, box _ _ 0 4 [(.string ((nth xs ((k : Int))).1)), (.string ((nth xs ((k : Int))).2))]]) [] mixed st4 (by kernel_rfl) trivial
    ⟨Ob.d fun c => r_move rfl (c.p e7),
    Ob.d fun c => r_indexAddr rfl Try.underlying22 Try.sizeOf43 (c.p e5) hS.sl (c.p e7) (by omega) (by omega),
    Ob.d fun c => r_loadN (vs := [(.string ((nth xs ((k : Int))).1)), (.string ((nth xs ((k : Int))).2))]) rfl Try.isAgg43 Try.sizeOf43 (c.n 1 rfl) rfl (fun _ _ hj => ((hS.at (st4.ext.trans c.J.ext))).elem (nth_some (i := (k : Int)) (by omega) (by omega)) hj),
    Ob.alloc rfl rfl rfl rfl Try.zeroValue43 rfl,
    Ob.d fun c => r_assign rfl (c.n 0 rfl),
    Ob.storeBox (off := 0) (v := (.agg #[(.string ((nth xs ((k : Int))).1)), (.string ((nth xs ((k : Int))).2))])) rfl rfl rfl rfl Try.sizeOf43 (Nat.le_of_ble_eq_true rfl) (by simp [Value.cells, Value.oneCell', Sv.v]) rfl (fun _ _ _ _ c => ⟨c.rb 3 rfl, (c.rb 3 rfl).ptr, (c.n 2 rfl)⟩), trivial⟩ ?_
   intro a5 w5 τ5 st5 f5
   obtain ⟨b5x4, e4⟩ : ∃ b, get a5 4 = b := ⟨_, rfl⟩
   obtain ⟨e0, e5, e6, e7, e8, -⟩ := f5.ks [(0, _), (5, _), (6, _), (7, _), (8, _)] ⟨e0, e5, e6, e7, e8, trivial⟩
   have e3 : get a5 3 = (.int .i64 ((k : Int))) := f5.v 4 rfl
   have r0 : boxR 43 [(.string ((nth xs ((k : Int))).1)), (.string ((nth xs ((k : Int))).2))] (τ5 0) b5x4 w5 := f5.rb 5 e4 rfl
   clear f5
   show Code.wp _ _ _ a5 w5
   refine wp_seq ?_
   refine region_St (bf := [0, 1, 3, 7, 15, 31, 63, 127, 255, 127, 127, 1151, 3711, 7807, 15999, 32767, 65535, 131071]) (sp := [det _ 12 _, det _ 13 _, det _ 14 _, det _ 15 _, gdet _ 16 _ _, gdet _ 17 _ _, gdet _ 18 _ _, gdet _ 19 _ _, gdet _ 20 _ _, gdet _ 21 _ _, gdet _ 22 _ _, gdet _ 23 _ _, gdet _ 24 _ _, gdet _ 25 _ _, gdet _ 26 _ _, gdet _ 27 _ _, gdet _ 28 _ _, det _ 29 _]) [ib r0] mixed st5 (by kernel_rfl) ⟨r0, trivial⟩
    ⟨Ob.d fun c => r_loadN (vs := [(.string ((nth xs ((k : Int))).1)), (.string ((nth xs ((k : Int))).2))]) rfl Try.isAgg43 Try.sizeOf43 ((c.p e4).trans r0.ptr) rfl (fun _ _ hj => (c.ib 0 rfl).cell hj),
    Ob.c fun c => ⟨_, _, (e_call1 rfl rfl Try.call59 (c.n 0 rfl)), row_c (nth xs ((k : Int))) _ (by omega) (by omega)⟩,
    Ob.d fun c => r_not rfl (c.n 1 rfl),
    Ob.d fun c => r_move rfl (c.n 2 rfl),
    Ob.g 3 false rfl fun c hpc => r_move rfl (c.p e3),
    Ob.g 3 false rfl fun c hpc => r_gtr rfl (c.m 4 rfl hpc) rfl,
    Ob.g 3 false rfl fun c hpc => r_move rfl (c.m 5 rfl hpc),
    Ob.gg 6 true rfl fun c hpc => r_fieldAddr rfl Try.underlying43 rfl rfl Try.sizeOf9 ((c.p e4).trans r0.ptr),
    Ob.gg 6 true rfl fun c hpc => r_load1 rfl Try.isAgg9 (c.m 7 rfl hpc) ((c.ib 0 rfl).cell (j := 0) rfl),
    Ob.gg 6 true rfl fun c hpc => r_move rfl (c.p e0),
    Ob.gg 6 true rfl fun c hpc => r_move rfl (c.p e3),
    Ob.gg 6 true rfl fun c hpc => r_sub rfl (c.m 10 rfl hpc) rfl (by have hq0 := bt (hpc.2); have hq1 := hpc.1; (try simp only [Bool.not_eq_true', Bool.not_eq_false'] at hq1); omega),
    Ob.gg 6 true rfl fun c hpc => r_indexAddr rfl Try.underlying22 Try.sizeOf43 (c.m 9 rfl hpc) hS.sl (c.m 11 rfl hpc) (by have hq0 := bt (hpc.2); have hq1 := hpc.1; (try simp only [Bool.not_eq_true', Bool.not_eq_false'] at hq1); omega) (by have hq0 := bt (hpc.2); have hq1 := hpc.1; (try simp only [Bool.not_eq_true', Bool.not_eq_false'] at hq1); omega),
    Ob.gg 6 true rfl fun c hpc => r_fieldAddr rfl Try.underlying43 rfl rfl Try.sizeOf9 (c.m 12 rfl hpc),
    Ob.gg 6 true rfl fun c hpc => r_load1 rfl Try.isAgg9 (c.m 13 rfl hpc) (((hS.at (st5.ext.trans c.J.ext))).elem (j := 1) (nth_some (i := (k : Int) - 1) (by have hq0 := bt (hpc.2); have hq1 := hpc.1; (try simp only [Bool.not_eq_true', Bool.not_eq_false'] at hq1); omega) (by have hq0 := bt (hpc.2); have hq1 := hpc.1; (try simp only [Bool.not_eq_true', Bool.not_eq_false'] at hq1); omega)) rfl),
    Ob.gg 6 true rfl fun c hpc => r_sleq rfl (c.m 8 rfl hpc) (c.m 14 rfl hpc),
    Ob.g 3 false rfl fun c hpc => r_and rfl (c.m 6 rfl hpc) (fun h => c.m 15 rfl (And.intro hpc h)),
    Ob.d fun c => r_or rfl (c.n 3 rfl) (fun h => c.m 16 rfl h), trivial⟩ ?_
   intro a6 w6 τ6 st6 f6
   obtain ⟨e0, e3, e4, e5, e6, e7, e8, -⟩ := f6.ks [(0, _), (3, _), (4, _), (5, _), (6, _), (7, _), (8, _)] ⟨e0, e3, e4, e5, e6, e7, e8, trivial⟩
   have e29 : get a6 29 = (.bool ((!(rowB (nth xs ((k : Int))))) || ((decide (0 < (k : Int))) && (leT ((nth xs ((k : Int))).1) ((nth xs ((k : Int) - 1)).2))))) := f6.v 17 rfl
   replace r0 := f6.ib 0 rfl
   clear f6
   show Code.wp _ _ _ a6 w6
   refine wp_cond_split (t := (!(rowB (nth xs ((k : Int))))) || ((decide (0 < (k : Int))) && (leT ((nth xs ((k : Int))).1) ((nth xs ((k : Int) - 1)).2)))) e29 (fun hc2 => ?_) (fun hc2 => ?_)
   · have hd2 := hc2; try simp only [Bool.and_eq_true, Bool.and_eq_false_iff, Bool.or_eq_true, Bool.or_eq_false_iff, Bool.not_eq_true', Bool.not_eq_false', decide_eq_true_eq, decide_eq_false_iff_not, Int.not_lt] at hd2
     refine wp_seq ?_
     refine region_St (bf := [0]) (sp := [det _ 2 _]) [ib r0] mixed st6 (by kernel_rfl) ⟨r0, trivial⟩
      ⟨Ob.d fun c => r_assign rfl rfl, trivial⟩ ?_
     intro a7 w7 τ7 st7 f7
     obtain ⟨e0, e3, e4, e5, e6, e7, e8, e29, -⟩ := f7.ks [(0, _), (3, _), (4, _), (5, _), (6, _), (7, _), (8, _), (29, _)] ⟨e0, e3, e4, e5, e6, e7, e8, e29, trivial⟩
     have e2 : get a7 2 = (.bool (false)) := f7.v 0 rfl
     replace r0 := f7.ib 0 rfl
     clear f7
     show Code.wp _ _ _ a7 w7
     refine wp_ret ?_
     repeat (first | with_reducible refine then_ret ?_ | with_reducible refine block_ret ?_)
     refine ret1 (fn := Try.f52) rfl st7.defers e2 ?_
     exact ⟨congrArg _ (congrArg _ (by exact (mayRow_no (k := k) (by omega) (by assumption)).symm)), st7.ext0⟩
   have hd2 := hc2; try simp only [Bool.and_eq_true, Bool.and_eq_false_iff, Bool.or_eq_true, Bool.or_eq_false_iff, Bool.not_eq_true', Bool.not_eq_false', decide_eq_true_eq, decide_eq_false_iff_not, Int.not_lt] at hd2
   refine wp_skip ?_
   show _
   show Code.wp _ _ _ a6 w6
   refine region_St (bf := [0, 1]) (sp := [det _ 30 _, det _ 7 _]) [ib r0] mixed st6 (by kernel_rfl) ⟨r0, trivial⟩
    ⟨Ob.d fun c => r_add rfl (c.p e7) rfl (by omega),
    Ob.d fun c => r_move rfl (c.n 0 rfl), trivial⟩ ?_
   intro a8 w8 τ8 st8 f8
   obtain ⟨e0, e3, e4, e5, e6, e8, e29, -⟩ := f8.ks [(0, _), (3, _), (4, _), (5, _), (6, _), (8, _), (29, _)] ⟨e0, e3, e4, e5, e6, e8, e29, trivial⟩
   have e7 : get a8 7 = (.int .i64 ((k : Int) + 1)) := f8.v 1 rfl
   replace r0 := f8.ib 0 rfl
   clear f8
   refine ⟨⟨k + 1, τ8, ?_, ?_, st8, (e7.trans (int_eq (by omega))), e0, e5, e6⟩, ?_⟩
   · omega
   · exact upto_succ q1 (by assumption)
   · simp only [m7, e7, intOf]; omega
 try simp only [decide_eq_false_iff_not, Int.not_lt] at hc1
 refine wp_exit ?_
 repeat (with_reducible refine then_exit ?_)
 refine exit_here ?_
 show Code.wp _ _ _ a4 w4
 refine wp_seq ?_
 refine region_St (bf := [0]) (sp := [det _ 2 _]) [] mixed st4 (by kernel_rfl) trivial
  ⟨Ob.d fun c => r_assign rfl rfl, trivial⟩ ?_
 intro a9 w9 τ9 st9 f9
 have e2 : get a9 2 = (.bool (true)) := f9.v 0 rfl
 clear f9
 show Code.wp _ _ _ a9 w9
 refine wp_ret ?_
 repeat (first | with_reducible refine then_ret ?_ | with_reducible refine block_ret ?_)
 refine ret1 (fn := Try.f52) rfl st9.defers e2 ?_
 exact ⟨congrArg _ (congrArg _ (by exact (mayRow_yes q1 (by omega)).symm)), st9.ext0⟩

set_option maxRecDepth 100000 in
theorem refMayR_c (v : Value) (xs : List (ByteArray × ByteArray)) (w : World) (hS : SlT RowE w v xs) (hz : Small xs) (hbig : xs.length ≤ 1000000000) : Calls Try.prog 43 #[v] w (fun e w' => e = .returned (.bool (mayRow xs)) ∧ Ext none' w w') := by
 refine enter (n := 47) Try.func43 rfl rfl (Nat.le_of_ble_eq_true rfl) ?_
 intro a0 τ0 ha st0
 have e0 : get a0 0 = v := ha 0 _ rfl
 clear ha
 have hle := hS.le
 refine wp_seq ?_
 refine region_St (bf := [0]) (sp := [det _ 2 _]) [] mixed st0 (by kernel_rfl) trivial
  ⟨Ob.d fun c => r_assign rfl rfl, trivial⟩ ?_
 intro a1 w1 τ1 st1 f1
 obtain ⟨e0, -⟩ := f1.ks [(0, _)] ⟨e0, trivial⟩
 have e2 : get a1 2 = (.bool (false)) := f1.v 0 rfl
 clear f1
 show Code.wp _ _ _ a1 w1
 refine wp_seq ?_
 refine wp_seq ?_
 refine region_St (bf := [0]) (sp := [det _ 3 _]) [] mixed st1 (by kernel_rfl) trivial
  ⟨Ob.d fun c => r_assign rfl rfl, trivial⟩ ?_
 intro a2 w2 τ2 st2 f2
 obtain ⟨e0, e2, -⟩ := f2.ks [(0, _), (2, _)] ⟨e0, e2, trivial⟩
 have e3 : get a2 3 = (.int .i64 (0)) := f2.v 0 rfl
 clear f2
 show Code.wp _ _ _ a2 w2
 refine wp_block ?_
 refine wp_loop (fun a_ w_ => ∃ (k : Nat) (τ : Nat → Foot), (k ≤ xs.length) ∧
      (∀ i < k, badRow xs ((i : Nat) : Int) = false) ∧
      St (Nw w) w 47 a_ w_ τ ∧
      get a_ 3 = (.int .i64 ((k : Int))) ∧
      get a_ 0 = v) (fun a_ _ => xs.length - (intOf (get a_ 3)).toNat) ?_ ?_
 · refine ⟨0, τ2, ?_, ?_, st2, (e3.trans (int_eq (by omega))), e0⟩
   · omega
   · intro i hi; omega
 intro a3 w3 hI
 obtain ⟨k, τ3, q0, q1, st3, e3, e0⟩ := hI
 have hzk := small_at hz (k := k)
 have m3 := e3
 refine wp_seq ?_
 refine wp_seq ?_
 refine region_St (bf := [0, 0, 2, 7]) (sp := [det _ 5 _, det _ 6 _, det _ 7 _, det _ 8 _]) [] mixed st3 (by kernel_rfl) trivial
  ⟨Ob.d fun c => r_move rfl (c.p e3),
  Ob.d fun c => r_move rfl (c.p e0),
  Ob.d fun c => r_len rfl Try.underlying22 (c.n 1 rfl) hS.sl,
  Ob.d fun c => r_lss rfl (c.n 0 rfl) (c.n 2 rfl), trivial⟩ ?_
 intro a4 w4 τ4 st4 f4
 obtain ⟨e0, e3, -⟩ := f4.ks [(0, _), (3, _)] ⟨e0, e3, trivial⟩
 have e8 : get a4 8 = (.bool (decide ((k : Int) < (xs.length : Int)))) := f4.v 3 rfl
 clear f4
 show Code.wp _ _ _ a4 w4
 refine wp_cond_split (t := decide ((k : Int) < (xs.length : Int))) e8 (fun hc1 => ?_) (fun hc1 => ?_)
 · try simp only [decide_eq_true_eq] at hc1
   refine wp_skip ?_
   show Code.wp _ _ _ a4 w4
   refine wp_seq ?_
   refine wp_block ?_
   refine wp_seq ?_
   refine region_St (bf := [0, 0, 3, 7, 0, 31]) (sp := [det _ 11 _, det _ 12 _, det _ 13 _, det _ 14 _, box _ _ 0 4 [(.string ((⟨#[]⟩ : ByteArray))), (.string ((⟨#[]⟩ : ByteArray)))], box _ _ 0 4 [(.string ((nth xs ((k : Int))).1)), (.string ((nth xs ((k : Int))).2))]]) [] mixed st4 (by kernel_rfl) trivial
    ⟨Ob.d fun c => r_move rfl (c.p e0),
    Ob.d fun c => r_move rfl (c.p e3),
    Ob.d fun c => r_indexAddr rfl Try.underlying22 Try.sizeOf43 (c.n 0 rfl) hS.sl (c.n 1 rfl) (by omega) (by omega),
    Ob.d fun c => r_loadN (vs := [(.string ((nth xs ((k : Int))).1)), (.string ((nth xs ((k : Int))).2))]) rfl Try.isAgg43 Try.sizeOf43 (c.n 2 rfl) rfl (fun _ _ hj => ((hS.at (st4.ext.trans c.J.ext))).elem (nth_some (i := (k : Int)) (by omega) (by omega)) hj),
    Ob.alloc rfl rfl rfl rfl Try.zeroValue43 rfl,
    Ob.storeBox (off := 0) (v := (.agg #[(.string ((nth xs ((k : Int))).1)), (.string ((nth xs ((k : Int))).2))])) rfl rfl rfl rfl Try.sizeOf43 (Nat.le_of_ble_eq_true rfl) (by simp [Value.cells, Value.oneCell', Sv.v]) rfl (fun _ _ _ _ c => ⟨c.rb 4 rfl, (c.rb 4 rfl).ptr, (c.n 3 rfl)⟩), trivial⟩ ?_
   intro a5 w5 τ5 st5 f5
   obtain ⟨b5x4, e4⟩ : ∃ b, get a5 4 = b := ⟨_, rfl⟩
   obtain ⟨e0, e3, e8, -⟩ := f5.ks [(0, _), (3, _), (8, _)] ⟨e0, e3, e8, trivial⟩
   have r0 : boxR 43 [(.string ((nth xs ((k : Int))).1)), (.string ((nth xs ((k : Int))).2))] (τ5 0) b5x4 w5 := f5.rb 5 e4 rfl
   clear f5
   show Code.wp _ _ _ a5 w5
   refine wp_seq ?_
   refine region_St (bf := [0, 1, 3, 7, 15, 31, 63, 127, 255, 511, 1023, 2047, 4095, 2047, 10239, 32767, 65535, 131071, 262143, 524287, 1048575, 2097151, 4194303, 2097151, 2097151, 18874367, 60817407, 127926271, 262143999, 536870911, 1073741823, 2147483647]) (sp := [det _ 15 _, det _ 16 _, det _ 17 _, det _ 18 _, det _ 19 _, gdet _ 20 _ _, gdet _ 21 _ _, gdet _ 22 _ _, gdet _ 23 _ _, det _ 24 _, det _ 25 _, gdet _ 26 _ _, gdet _ 27 _ _, gdet _ 28 _ _, gdet _ 29 _ _, gdet _ 30 _ _, det _ 31 _, det _ 32 _, gdet _ 33 _ _, gdet _ 34 _ _, gdet _ 35 _ _, gdet _ 36 _ _, gdet _ 37 _ _, gdet _ 38 _ _, gdet _ 39 _ _, gdet _ 40 _ _, gdet _ 41 _ _, gdet _ 42 _ _, gdet _ 43 _ _, gdet _ 44 _ _, gdet _ 45 _ _, det _ 46 _]) [ib r0] mixed st5 (by kernel_rfl) ⟨r0, trivial⟩
    ⟨Ob.d fun c => r_fieldAddr rfl Try.underlying43 rfl rfl Try.sizeOf9 ((c.p e4).trans r0.ptr),
    Ob.d fun c => r_load1 rfl Try.isAgg9 (c.n 0 rfl) ((c.ib 0 rfl).cell (j := 0) rfl),
    Ob.c fun c => ⟨_, _, (e_call1 rfl rfl Try.call42 (c.n 1 rfl)), refProper_c ((nth xs ((k : Int))).1) _ (by omega)⟩,
    Ob.d fun c => r_not rfl (c.n 2 rfl),
    Ob.d fun c => r_move rfl (c.n 3 rfl),
    Ob.g 4 false rfl fun c hpc => r_fieldAddr rfl Try.underlying43 rfl rfl Try.sizeOf9 ((c.p e4).trans r0.ptr),
    Ob.g 4 false rfl fun c hpc => r_load1 rfl Try.isAgg9 (c.m 5 rfl hpc) ((c.ib 0 rfl).cell (j := 1) rfl),
    Ob.gc 4 false rfl fun c hpc => ⟨_, _, (e_call1 rfl rfl Try.call42 (c.m 6 rfl hpc)), refProper_c ((nth xs ((k : Int))).2) _ (by have hq0 := hpc; (try simp only [Bool.not_eq_true', Bool.not_eq_false'] at hq0); omega)⟩,
    Ob.g 4 false rfl fun c hpc => r_not rfl (c.m 7 rfl hpc),
    Ob.d fun c => r_or rfl (c.n 4 rfl) (fun h => c.m 8 rfl h),
    Ob.d fun c => r_move rfl (c.n 9 rfl),
    Ob.g 10 false rfl fun c hpc => r_fieldAddr rfl Try.underlying43 rfl rfl Try.sizeOf9 ((c.p e4).trans r0.ptr),
    Ob.g 10 false rfl fun c hpc => r_load1 rfl Try.isAgg9 (c.m 11 rfl hpc) ((c.ib 0 rfl).cell (j := 0) rfl),
    Ob.g 10 false rfl fun c hpc => r_fieldAddr rfl Try.underlying43 rfl rfl Try.sizeOf9 ((c.p e4).trans r0.ptr),
    Ob.g 10 false rfl fun c hpc => r_load1 rfl Try.isAgg9 (c.m 13 rfl hpc) ((c.ib 0 rfl).cell (j := 1) rfl),
    Ob.g 10 false rfl fun c hpc => r_sgtr rfl (c.m 12 rfl hpc) (c.m 14 rfl hpc),
    Ob.d fun c => r_or rfl (c.n 10 rfl) (fun h => c.m 15 rfl h),
    Ob.d fun c => r_move rfl (c.n 16 rfl),
    Ob.g 17 false rfl fun c hpc => r_move rfl (c.p e3),
    Ob.g 17 false rfl fun c hpc => r_gtr rfl (c.m 18 rfl hpc) rfl,
    Ob.g 17 false rfl fun c hpc => r_move rfl (c.m 19 rfl hpc),
    Ob.gg 20 true rfl fun c hpc => r_fieldAddr rfl Try.underlying43 rfl rfl Try.sizeOf9 ((c.p e4).trans r0.ptr),
    Ob.gg 20 true rfl fun c hpc => r_load1 rfl Try.isAgg9 (c.m 21 rfl hpc) ((c.ib 0 rfl).cell (j := 0) rfl),
    Ob.gg 20 true rfl fun c hpc => r_move rfl (c.p e0),
    Ob.gg 20 true rfl fun c hpc => r_move rfl (c.p e3),
    Ob.gg 20 true rfl fun c hpc => r_sub rfl (c.m 24 rfl hpc) rfl (by have hq0 := bt (hpc.2); have hq1 := hpc.1; (try simp only [Bool.or_eq_true, Bool.or_eq_false_iff, Bool.not_eq_true', Bool.not_eq_false'] at hq1); omega),
    Ob.gg 20 true rfl fun c hpc => r_indexAddr rfl Try.underlying22 Try.sizeOf43 (c.m 23 rfl hpc) hS.sl (c.m 25 rfl hpc) (by have hq0 := bt (hpc.2); have hq1 := hpc.1; (try simp only [Bool.or_eq_true, Bool.or_eq_false_iff, Bool.not_eq_true', Bool.not_eq_false'] at hq1); omega) (by have hq0 := bt (hpc.2); have hq1 := hpc.1; (try simp only [Bool.or_eq_true, Bool.or_eq_false_iff, Bool.not_eq_true', Bool.not_eq_false'] at hq1); omega),
    Ob.gg 20 true rfl fun c hpc => r_fieldAddr rfl Try.underlying43 rfl rfl Try.sizeOf9 (c.m 26 rfl hpc),
    Ob.gg 20 true rfl fun c hpc => r_load1 rfl Try.isAgg9 (c.m 27 rfl hpc) (((hS.at (st5.ext.trans c.J.ext))).elem (j := 1) (nth_some (i := (k : Int) - 1) (by have hq0 := bt (hpc.2); have hq1 := hpc.1; (try simp only [Bool.or_eq_true, Bool.or_eq_false_iff, Bool.not_eq_true', Bool.not_eq_false'] at hq1); omega) (by have hq0 := bt (hpc.2); have hq1 := hpc.1; (try simp only [Bool.or_eq_true, Bool.or_eq_false_iff, Bool.not_eq_true', Bool.not_eq_false'] at hq1); omega)) rfl),
    Ob.gg 20 true rfl fun c hpc => r_sleq rfl (c.m 22 rfl hpc) (c.m 28 rfl hpc),
    Ob.g 17 false rfl fun c hpc => r_and rfl (c.m 20 rfl hpc) (fun h => c.m 29 rfl (And.intro hpc h)),
    Ob.d fun c => r_or rfl (c.n 17 rfl) (fun h => c.m 30 rfl h), trivial⟩ ?_
   intro a6 w6 τ6 st6 f6
   obtain ⟨e0, e3, e4, e8, -⟩ := f6.ks [(0, _), (3, _), (4, _), (8, _)] ⟨e0, e3, e4, e8, trivial⟩
   have e46 : get a6 46 = (.bool ((((!(properB ((nth xs ((k : Int))).1))) || (!(properB ((nth xs ((k : Int))).2)))) || (!(leT ((nth xs ((k : Int))).1) ((nth xs ((k : Int))).2)))) || ((decide (0 < (k : Int))) && (leT ((nth xs ((k : Int))).1) ((nth xs ((k : Int) - 1)).2))))) := f6.v 31 rfl
   replace r0 := f6.ib 0 rfl
   clear f6
   show Code.wp _ _ _ a6 w6
   refine wp_cond_split (t := (((!(properB ((nth xs ((k : Int))).1))) || (!(properB ((nth xs ((k : Int))).2)))) || (!(leT ((nth xs ((k : Int))).1) ((nth xs ((k : Int))).2)))) || ((decide (0 < (k : Int))) && (leT ((nth xs ((k : Int))).1) ((nth xs ((k : Int) - 1)).2)))) e46 (fun hc2 => ?_) (fun hc2 => ?_)
   · have hd2 := hc2; try simp only [Bool.and_eq_true, Bool.and_eq_false_iff, Bool.or_eq_true, Bool.or_eq_false_iff, Bool.not_eq_true', Bool.not_eq_false', decide_eq_true_eq, decide_eq_false_iff_not, Int.not_lt] at hd2
     refine wp_seq ?_
     refine region_St (bf := [0]) (sp := [det _ 2 _]) [ib r0] mixed st6 (by kernel_rfl) ⟨r0, trivial⟩
      ⟨Ob.d fun c => r_assign rfl rfl, trivial⟩ ?_
     intro a7 w7 τ7 st7 f7
     obtain ⟨e0, e3, e4, e8, e46, -⟩ := f7.ks [(0, _), (3, _), (4, _), (8, _), (46, _)] ⟨e0, e3, e4, e8, e46, trivial⟩
     have e2 : get a7 2 = (.bool (false)) := f7.v 0 rfl
     replace r0 := f7.ib 0 rfl
     clear f7
     show Code.wp _ _ _ a7 w7
     refine wp_ret ?_
     repeat (first | with_reducible refine then_ret ?_ | with_reducible refine block_ret ?_)
     refine ret1 (fn := Try.f43) rfl st7.defers e2 ?_
     exact ⟨congrArg _ (congrArg _ (by exact (mayRow_no (k := k) (by omega) ((badRow_ref xs (k : Int)).symm.trans (by assumption))).symm)), st7.ext0⟩
   have hd2 := hc2; try simp only [Bool.and_eq_true, Bool.and_eq_false_iff, Bool.or_eq_true, Bool.or_eq_false_iff, Bool.not_eq_true', Bool.not_eq_false', decide_eq_true_eq, decide_eq_false_iff_not, Int.not_lt] at hd2
   refine wp_skip ?_
   show _
   show Code.wp _ _ _ a6 w6
   refine region_St (bf := [0, 1, 3]) (sp := [det _ 9 _, det _ 10 _, det _ 3 _]) [ib r0] mixed st6 (by kernel_rfl) ⟨r0, trivial⟩
    ⟨Ob.d fun c => r_move rfl (c.p e3),
    Ob.d fun c => r_add rfl (c.n 0 rfl) rfl (by omega),
    Ob.d fun c => r_assign rfl (c.n 1 rfl), trivial⟩ ?_
   intro a8 w8 τ8 st8 f8
   obtain ⟨e0, e4, e8, e46, -⟩ := f8.ks [(0, _), (4, _), (8, _), (46, _)] ⟨e0, e4, e8, e46, trivial⟩
   have e3 : get a8 3 = (.int .i64 ((k : Int) + 1)) := f8.v 2 rfl
   replace r0 := f8.ib 0 rfl
   clear f8
   refine ⟨⟨k + 1, τ8, ?_, ?_, st8, (e3.trans (int_eq (by omega))), e0⟩, ?_⟩
   · omega
   · exact upto_succ q1 ((badRow_ref xs (k : Int)).symm.trans (by assumption))
   · simp only [m3, e3, intOf]; omega
 try simp only [decide_eq_false_iff_not, Int.not_lt] at hc1
 refine wp_exit ?_
 repeat (with_reducible refine then_exit ?_)
 refine exit_here ?_
 show Code.wp _ _ _ a4 w4
 refine wp_seq ?_
 refine region_St (bf := [0]) (sp := [det _ 2 _]) [] mixed st4 (by kernel_rfl) trivial
  ⟨Ob.d fun c => r_assign rfl rfl, trivial⟩ ?_
 intro a9 w9 τ9 st9 f9
 have e2 : get a9 2 = (.bool (true)) := f9.v 0 rfl
 clear f9
 show Code.wp _ _ _ a9 w9
 refine wp_ret ?_
 repeat (first | with_reducible refine then_ret ?_ | with_reducible refine block_ret ?_)
 refine ret1 (fn := Try.f43) rfl st9.defers e2 ?_
 exact ⟨congrArg _ (congrArg _ (by exact (mayRow_yes q1 (by omega)).symm)), st9.ext0⟩
end B
end Go.Proofs.Ytocmchlhbniloaa
