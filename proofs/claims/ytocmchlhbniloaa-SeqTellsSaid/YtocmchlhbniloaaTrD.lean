/-
  Walks, printed by a program (gen.py): TrD.
-/
import Derived.Test.YtocmchlhbniloaaTrC
set_option linter.unusedSimpArgs false
set_option linter.unusedVariables false
namespace Go.Proofs.Ytocmchlhbniloaa
namespace B
open Go.RowKit
open Srt
set_option maxRecDepth 100000 in
theorem rx_step (t : Tr) (ih : ∀ k ∈ t.kids, ∀ (n : Int) (w : World), TrS w k → -1000000 ≤ n ∧ n ≤ 1000000 → Calls Try.prog 9 #[k.v, .int .i64 n] w (fun e w' => e = .returned (.int .i64 (rxF k n)) ∧ Ext none' w w')) (n : Int) (w : World) (hT : TrS w t) (hn : -1000000 ≤ n ∧ n ≤ 1000000) : Calls Try.prog 9 #[t.v, .int .i64 n] w (fun e w' => e = .returned (.int .i64 (rxF t n)) ∧ Ext none' w w') := by
 refine enter (n := 96) Try.func9 rfl rfl (Nat.le_of_ble_eq_true rfl) ?_
 intro a0 τ0 ha st0
 have e0 : get a0 0 = (.agg #[(.int .i64 (t.k)), (.string (t.ch)), (.bool (t.ng)), t.rv.v, (.int .i64 (t.mn)), (.int .i64 (t.mx)), (.bool (t.lz)), t.kv.v]) := ha 0 _ rfl
 have e1 : get a0 1 = (.int .i64 (n)) := ha 1 _ rfl
 clear ha
 have hle := hT.kids.le
 have hle2 := hT.rows.le
 refine wp_seq ?_
 refine region_St (bf := [0, 0]) (sp := [box _ _ 0 2 [(.int .i64 (t.k)), (.string (t.ch)), (.bool (t.ng)), t.rv.v, (.int .i64 (t.mn)), (.int .i64 (t.mx)), (.bool (t.lz)), t.kv.v], det _ 4 _]) [] mixed st0 (by kernel_rfl) trivial
  ⟨Ob.box (v := (.agg #[(.int .i64 (t.k)), (.string (t.ch)), (.bool (t.ng)), t.rv.v, (.int .i64 (t.mn)), (.int .i64 (t.mx)), (.bool (t.lz)), t.kv.v])) rfl rfl rfl rfl rfl (fun _ _ _ _ c => (c.p e0)),
  Ob.d fun c => r_assign rfl rfl, trivial⟩ ?_
 intro a1 w1 τ1 st1 f1
 obtain ⟨b1x2, e2⟩ : ∃ b, get a1 2 = b := ⟨_, rfl⟩
 obtain ⟨e1, -⟩ := f1.ks [(1, _)] ⟨e1, trivial⟩
 have e4 : get a1 4 = (.int .i64 (0)) := f1.v 1 rfl
 have r0 : boxR 25 [(.int .i64 (t.k)), (.string (t.ch)), (.bool (t.ng)), t.rv.v, (.int .i64 (t.mn)), (.int .i64 (t.mx)), (.bool (t.lz)), t.kv.v] (τ1 0) b1x2 w1 := f1.rb 0 e2 rfl
 clear f1
 show Code.wp _ _ _ a1 w1
 refine wp_seq ?_
 refine wp_seq ?_
 refine region_St (bf := [0, 1, 3, 0, 15, 31, 63, 127, 255, 63, 1023, 2047, 4095, 8191, 16383, 32767, 8191, 131071, 262143]) (sp := [det _ 7 _, det _ 8 _, det _ 9 _, det _ 10 _, det _ 11 _, det _ 12 _, gdet _ 13 _ _, gdet _ 14 _ _, gdet _ 15 _ _, gdet _ 16 _ _, gdet _ 17 _ _, det _ 18 _, det _ 19 _, gdet _ 20 _ _, gdet _ 21 _ _, gdet _ 22 _ _, gdet _ 23 _ _, gdet _ 24 _ _, det _ 25 _]) [ib r0] mixed st1 (by kernel_rfl) ⟨r0, trivial⟩
  ⟨Ob.d fun c => r_fieldAddr rfl Try.underlying25 rfl rfl Try.sizeOf9 ((c.p e2).trans r0.ptr),
  Ob.d fun c => r_load1 rfl Try.isAgg9 (c.n 0 rfl) ((c.ib 0 rfl).cell (j := 1) rfl),
  Ob.d fun c => r_lenS rfl Try.underlying9 (c.n 1 rfl),
  Ob.d fun c => r_move rfl (c.p e1),
  Ob.d fun c => r_geq rfl (c.n 2 rfl) (c.n 3 rfl),
  Ob.d fun c => r_move rfl (c.n 4 rfl),
  Ob.g 5 false rfl fun c hpc => r_fieldAddr rfl Try.underlying25 rfl rfl Try.sizeOf22 ((c.p e2).trans r0.ptr),
  Ob.g 5 false rfl fun c hpc => r_load1 rfl Try.isAgg22 (c.m 6 rfl hpc) ((c.ib 0 rfl).cell (j := 3) rfl),
  Ob.g 5 false rfl fun c hpc => r_len rfl Try.underlying22 (c.m 7 rfl hpc) (hT.at st1.ext).rows.sl,
  Ob.g 5 false rfl fun c hpc => r_move rfl (c.p e1),
  Ob.g 5 false rfl fun c hpc => r_geq rfl (c.m 8 rfl hpc) (c.m 9 rfl hpc),
  Ob.d fun c => r_or rfl (c.n 5 rfl) (fun h => c.m 10 rfl h),
  Ob.d fun c => r_move rfl (c.n 11 rfl),
  Ob.g 12 false rfl fun c hpc => r_fieldAddr rfl Try.underlying25 rfl rfl Try.sizeOf23 ((c.p e2).trans r0.ptr),
  Ob.g 12 false rfl fun c hpc => r_load1 rfl Try.isAgg23 (c.m 13 rfl hpc) ((c.ib 0 rfl).cell (j := 7) rfl),
  Ob.g 12 false rfl fun c hpc => r_len rfl Try.underlying23 (c.m 14 rfl hpc) (hT.at st1.ext).tl.sl.sl,
  Ob.g 12 false rfl fun c hpc => r_move rfl (c.p e1),
  Ob.g 12 false rfl fun c hpc => r_geq rfl (c.m 15 rfl hpc) (c.m 16 rfl hpc),
  Ob.d fun c => r_or rfl (c.n 12 rfl) (fun h => c.m 17 rfl h), trivial⟩ ?_
 intro a2 w2 τ2 st2 f2
 obtain ⟨e1, e2, e4, -⟩ := f2.ks [(1, _), (2, _), (4, _)] ⟨e1, e2, e4, trivial⟩
 have e25 : get a2 25 = (.bool (((decide (n ≤ (t.ch.size : Int))) || (decide (n ≤ (t.rows.length : Int)))) || (decide (n ≤ (t.kids.length : Int))))) := f2.v 18 rfl
 replace r0 := f2.ib 0 rfl
 clear f2
 show Code.wp _ _ _ a2 w2
 refine wp_cond_split (t := ((decide (n ≤ (t.ch.size : Int))) || (decide (n ≤ (t.rows.length : Int)))) || (decide (n ≤ (t.kids.length : Int)))) e25 (fun hc1 => ?_) (fun hc1 => ?_)
 · have hd1 := hc1; try simp only [Bool.or_eq_true, decide_eq_true_eq] at hd1
   refine wp_seq ?_
   refine region_St (bf := [0]) (sp := [det _ 4 _]) [ib r0] mixed st2 (by kernel_rfl) ⟨r0, trivial⟩
    ⟨Ob.d fun c => r_assign rfl rfl, trivial⟩ ?_
   intro a3 w3 τ3 st3 f3
   obtain ⟨e1, e2, -⟩ := f3.ks [(1, _), (2, _)] ⟨e1, e2, trivial⟩
   have e4 : get a3 4 = (.int .i64 ((-1))) := f3.v 0 rfl
   replace r0 := f3.ib 0 rfl
   clear f3
   show Code.wp _ _ _ a3 w3
   refine wp_ret ?_
   repeat (first | with_reducible refine then_ret ?_ | with_reducible refine block_ret ?_)
   refine ret1 (fn := Try.f9) rfl st3.defers e4 ?_
   exact ⟨congrArg _ (int_eq (by first | exact (rxF_top (by assumption)).symm | exact (rxF_row htop (k := k) (by assumption) (by omega) (by assumption)).symm | exact (rxF_end htop (k := k) (m := l) (by assumption) (by omega) q2 (by omega)).symm)), st3.ext0⟩
 have hd1 := hc1; try simp only [Bool.or_eq_false_iff, decide_eq_false_iff_not, Int.not_le] at hd1
 refine wp_skip ?_
 show Code.wp _ _ _ a2 w2
 refine wp_seq ?_
 have htop : rxTop t n = false := by assumption
 have htp := htop
 unfold rxTop at htp
 simp only [Bool.or_eq_false_iff, decide_eq_false_iff_not, Int.not_le] at htp
 refine region_St (bf := [0, 1, 0, 4, 12, 31, 63]) (sp := [det _ 26 _, det _ 27 _, det _ 28 _, det _ 29 _, det _ 30 _, det _ 31 _, det _ 1 _]) [ib r0] mixed st2 (by kernel_rfl) ⟨r0, trivial⟩
  ⟨Ob.d fun c => r_move rfl (c.p e1),
  Ob.d fun c => r_sub rfl (c.n 0 rfl) rfl (by omega),
  Ob.d fun c => r_fieldAddr rfl Try.underlying25 rfl rfl Try.sizeOf9 ((c.p e2).trans r0.ptr),
  Ob.d fun c => r_load1 rfl Try.isAgg9 (c.n 2 rfl) ((c.ib 0 rfl).cell (j := 1) rfl),
  Ob.d fun c => r_lenS rfl Try.underlying9 (c.n 3 rfl),
  Ob.d fun c => r_sub rfl (c.n 1 rfl) (c.n 4 rfl) (by omega),
  Ob.d fun c => r_assign rfl (c.n 5 rfl), trivial⟩ ?_
 intro a4 w4 τ4 st4 f4
 obtain ⟨e2, e4, -⟩ := f4.ks [(2, _), (4, _)] ⟨e2, e4, trivial⟩
 have e1 : get a4 1 = (.int .i64 (n - 1 - (t.ch.size : Int))) := f4.v 6 rfl
 replace r0 := f4.ib 0 rfl
 clear f4
 show Code.wp _ _ _ a4 w4
 refine wp_seq ?_
 refine wp_seq ?_
 refine region_St (bf := [0]) (sp := [det _ 5 _]) [ib r0] mixed st4 (by kernel_rfl) ⟨r0, trivial⟩
  ⟨Ob.d fun c => r_assign rfl rfl, trivial⟩ ?_
 intro a5 w5 τ5 st5 f5
 obtain ⟨e1, e2, e4, -⟩ := f5.ks [(1, _), (2, _), (4, _)] ⟨e1, e2, e4, trivial⟩
 have e5 : get a5 5 = (.int .i64 (0)) := f5.v 0 rfl
 replace r0 := f5.ib 0 rfl
 clear f5
 show Code.wp _ _ _ a5 w5
 refine wp_block ?_
 refine wp_loop (fun a_ w_ => ∃ (k : Nat) (l : Int) (τ : Nat → Foot), (k ≤ t.rows.length) ∧
      (-1000000 ≤ l ∧ l ≤ 1000000) ∧
      (rxRows (n - 1 - (t.ch.size : Int)) t.rows = rxRows l (t.rows.drop k)) ∧
      St (Nw w) w 96 a_ w_ τ ∧
      get a_ 1 = (.int .i64 (l)) ∧
      get a_ 5 = (.int .i64 ((k : Int))) ∧
      get a_ 2 = b1x2 ∧
      boxR 25 [(.int .i64 (t.k)), (.string (t.ch)), (.bool (t.ng)), t.rv.v, (.int .i64 (t.mn)), (.int .i64 (t.mx)), (.bool (t.lz)), t.kv.v] (τ 0) b1x2 w_) (fun a_ _ => t.rows.length - (intOf (get a_ 5)).toNat) ?_ ?_
 · refine ⟨0, n - 1 - (t.ch.size : Int), τ5, ?_, ?_, ?_, st5, (e1.trans (int_eq (by omega))), (e5.trans (int_eq (by omega))), e2, r0⟩
   · omega
   · omega
   · rfl
 intro a6 w6 hI
 obtain ⟨k, l, τ6, q0, q1, q2, st6, e1, e5, e2, r0⟩ := hI
 have m5 := e5
 refine wp_seq ?_
 refine wp_seq ?_
 refine region_St (bf := [0, 0, 2, 6, 15]) (sp := [det _ 32 _, det _ 33 _, det _ 34 _, det _ 35 _, det _ 36 _]) [ib r0] mixed st6 (by kernel_rfl) ⟨r0, trivial⟩
  ⟨Ob.d fun c => r_move rfl (c.p e5),
  Ob.d fun c => r_fieldAddr rfl Try.underlying25 rfl rfl Try.sizeOf22 ((c.p e2).trans r0.ptr),
  Ob.d fun c => r_load1 rfl Try.isAgg22 (c.n 1 rfl) ((c.ib 0 rfl).cell (j := 3) rfl),
  Ob.d fun c => r_len rfl Try.underlying22 (c.n 2 rfl) (hT.at st6.ext).rows.sl,
  Ob.d fun c => r_lss rfl (c.n 0 rfl) (c.n 3 rfl), trivial⟩ ?_
 intro a7 w7 τ7 st7 f7
 obtain ⟨e1, e2, e5, -⟩ := f7.ks [(1, _), (2, _), (5, _)] ⟨e1, e2, e5, trivial⟩
 have e36 : get a7 36 = (.bool (decide ((k : Int) < (t.rows.length : Int)))) := f7.v 4 rfl
 replace r0 := f7.ib 0 rfl
 clear f7
 show Code.wp _ _ _ a7 w7
 refine wp_cond_split (t := decide ((k : Int) < (t.rows.length : Int))) e36 (fun hc2 => ?_) (fun hc2 => ?_)
 · try simp only [decide_eq_true_eq] at hc2
   refine wp_skip ?_
   show Code.wp _ _ _ a7 w7
   refine wp_seq ?_
   refine wp_block ?_
   refine wp_seq ?_
   refine wp_seq ?_
   refine region_St (bf := [0, 1, 0, 7, 15, 31, 63, 0, 255, 511, 1023, 2047, 1023, 8191, 16383, 32767, 65535, 1023, 262143, 524287]) (sp := [det _ 39 _, det _ 40 _, det _ 41 _, det _ 42 _, det _ 43 _, det _ 44 _, det _ 45 _, det _ 46 _, det _ 47 _, det _ 48 _, gdet _ 49 _ _, gdet _ 50 _ _, gdet _ 51 _ _, gdet _ 52 _ _, gdet _ 53 _ _, gdet _ 54 _ _, gdet _ 55 _ _, gdet _ 56 _ _, gdet _ 57 _ _, det _ 58 _]) [ib r0] mixed st7 (by kernel_rfl) ⟨r0, trivial⟩
    ⟨Ob.d fun c => r_fieldAddr rfl Try.underlying25 rfl rfl Try.sizeOf22 ((c.p e2).trans r0.ptr),
    Ob.d fun c => r_load1 rfl Try.isAgg22 (c.n 0 rfl) ((c.ib 0 rfl).cell (j := 3) rfl),
    Ob.d fun c => r_move rfl (c.p e5),
    Ob.d fun c => r_indexAddr rfl Try.underlying22 Try.sizeOf43 (c.n 1 rfl) (hT.at st7.ext).rows.sl (c.n 2 rfl) (by omega) (by omega),
    Ob.d fun c => r_fieldAddr rfl Try.underlying43 rfl rfl Try.sizeOf9 (c.n 3 rfl),
    Ob.d fun c => r_load1 rfl Try.isAgg9 (c.n 4 rfl) (((hT.at (st7.ext.trans c.J.ext)).rows).elem (j := 0) (nth_some (i := (k : Int)) (by omega) (by omega)) rfl),
    Ob.d fun c => r_lenS rfl Try.underlying9 (c.n 5 rfl),
    Ob.d fun c => r_move rfl (c.p e1),
    Ob.d fun c => r_geq rfl (c.n 6 rfl) (c.n 7 rfl),
    Ob.d fun c => r_move rfl (c.n 8 rfl),
    Ob.g 9 false rfl fun c hpc => r_fieldAddr rfl Try.underlying25 rfl rfl Try.sizeOf22 ((c.p e2).trans r0.ptr),
    Ob.g 9 false rfl fun c hpc => r_load1 rfl Try.isAgg22 (c.m 10 rfl hpc) ((c.ib 0 rfl).cell (j := 3) rfl),
    Ob.g 9 false rfl fun c hpc => r_move rfl (c.p e5),
    Ob.g 9 false rfl fun c hpc => r_indexAddr rfl Try.underlying22 Try.sizeOf43 (c.m 11 rfl hpc) (hT.at st7.ext).rows.sl (c.m 12 rfl hpc) (by have hq0 := bn hpc; omega) (by have hq0 := bn hpc; omega),
    Ob.g 9 false rfl fun c hpc => r_fieldAddr rfl Try.underlying43 rfl rfl Try.sizeOf9 (c.m 13 rfl hpc),
    Ob.g 9 false rfl fun c hpc => r_load1 rfl Try.isAgg9 (c.m 14 rfl hpc) (((hT.at (st7.ext.trans c.J.ext)).rows).elem (j := 1) (nth_some (i := (k : Int)) (by have hq0 := bn hpc; omega) (by have hq0 := bn hpc; omega)) rfl),
    Ob.g 9 false rfl fun c hpc => r_lenS rfl Try.underlying9 (c.m 15 rfl hpc),
    Ob.g 9 false rfl fun c hpc => r_move rfl (c.p e1),
    Ob.g 9 false rfl fun c hpc => r_geq rfl (c.m 16 rfl hpc) (c.m 17 rfl hpc),
    Ob.d fun c => r_or rfl (c.n 9 rfl) (fun h => c.m 18 rfl h), trivial⟩ ?_
   intro a8 w8 τ8 st8 f8
   obtain ⟨e1, e2, e5, e36, -⟩ := f8.ks [(1, _), (2, _), (5, _), (36, _)] ⟨e1, e2, e5, e36, trivial⟩
   have e58 : get a8 58 = (.bool ((decide (l ≤ (((nth t.rows ((k : Int))).1).size : Int))) || (decide (l ≤ (((nth t.rows ((k : Int))).2).size : Int))))) := f8.v 19 rfl
   replace r0 := f8.ib 0 rfl
   clear f8
   show Code.wp _ _ _ a8 w8
   refine wp_cond_split (t := (decide (l ≤ (((nth t.rows ((k : Int))).1).size : Int))) || (decide (l ≤ (((nth t.rows ((k : Int))).2).size : Int)))) e58 (fun hc3 => ?_) (fun hc3 => ?_)
   · have hd3 := hc3; try simp only [Bool.or_eq_true, decide_eq_true_eq] at hd3
     refine wp_seq ?_
     refine region_St (bf := [0]) (sp := [det _ 4 _]) [ib r0] mixed st8 (by kernel_rfl) ⟨r0, trivial⟩
      ⟨Ob.d fun c => r_assign rfl rfl, trivial⟩ ?_
     intro a9 w9 τ9 st9 f9
     obtain ⟨e1, e2, e5, e36, e58, -⟩ := f9.ks [(1, _), (2, _), (5, _), (36, _), (58, _)] ⟨e1, e2, e5, e36, e58, trivial⟩
     have e4 : get a9 4 = (.int .i64 ((-1))) := f9.v 0 rfl
     replace r0 := f9.ib 0 rfl
     clear f9
     show Code.wp _ _ _ a9 w9
     refine wp_ret ?_
     repeat (first | with_reducible refine then_ret ?_ | with_reducible refine block_ret ?_)
     refine ret1 (fn := Try.f9) rfl st9.defers e4 ?_
     exact ⟨congrArg _ (int_eq (by first | exact (rxF_top (by assumption)).symm | exact (rxF_row htop (k := k) (by assumption) (by omega) (by assumption)).symm | exact (rxF_end htop (k := k) (m := l) (by assumption) (by omega) q2 (by omega)).symm)), st9.ext0⟩
   have hd3 := hc3; try simp only [Bool.or_eq_false_iff, decide_eq_false_iff_not, Int.not_le] at hd3
   refine wp_skip ?_
   show Code.wp _ _ _ a8 w8
   have hrr : (decide (l ≤ ((nth t.rows (k : Int)).1.size : Int)) || decide (l ≤ ((nth t.rows (k : Int)).2.size : Int))) = false := by assumption
   have hrs := hrr
   simp only [Bool.or_eq_false_iff, decide_eq_false_iff_not, Int.not_le] at hrs
   refine region_St (bf := [0, 1, 0, 4, 0, 28, 60, 124, 252, 511, 0, 1024, 0, 7168, 15360, 31744, 64512, 131071, 262143]) (sp := [det _ 59 _, det _ 60 _, det _ 61 _, det _ 62 _, det _ 63 _, det _ 64 _, det _ 65 _, det _ 66 _, det _ 67 _, det _ 68 _, det _ 69 _, det _ 70 _, det _ 71 _, det _ 72 _, det _ 73 _, det _ 74 _, det _ 75 _, det _ 76 _, det _ 1 _]) [ib r0] mixed st8 (by kernel_rfl) ⟨r0, trivial⟩
    ⟨Ob.d fun c => r_move rfl (c.p e1),
    Ob.d fun c => r_sub rfl (c.n 0 rfl) rfl (by omega),
    Ob.d fun c => r_fieldAddr rfl Try.underlying25 rfl rfl Try.sizeOf22 ((c.p e2).trans r0.ptr),
    Ob.d fun c => r_load1 rfl Try.isAgg22 (c.n 2 rfl) ((c.ib 0 rfl).cell (j := 3) rfl),
    Ob.d fun c => r_move rfl (c.p e5),
    Ob.d fun c => r_indexAddr rfl Try.underlying22 Try.sizeOf43 (c.n 3 rfl) (hT.at st8.ext).rows.sl (c.n 4 rfl) (by omega) (by omega),
    Ob.d fun c => r_fieldAddr rfl Try.underlying43 rfl rfl Try.sizeOf9 (c.n 5 rfl),
    Ob.d fun c => r_load1 rfl Try.isAgg9 (c.n 6 rfl) (((hT.at (st8.ext.trans c.J.ext)).rows).elem (j := 0) (nth_some (i := (k : Int)) (by omega) (by omega)) rfl),
    Ob.d fun c => r_lenS rfl Try.underlying9 (c.n 7 rfl),
    Ob.d fun c => r_sub rfl (c.n 1 rfl) (c.n 8 rfl) (by omega),
    Ob.d fun c => r_fieldAddr rfl Try.underlying25 rfl rfl Try.sizeOf22 ((c.p e2).trans r0.ptr),
    Ob.d fun c => r_load1 rfl Try.isAgg22 (c.n 10 rfl) ((c.ib 0 rfl).cell (j := 3) rfl),
    Ob.d fun c => r_move rfl (c.p e5),
    Ob.d fun c => r_indexAddr rfl Try.underlying22 Try.sizeOf43 (c.n 11 rfl) (hT.at st8.ext).rows.sl (c.n 12 rfl) (by omega) (by omega),
    Ob.d fun c => r_fieldAddr rfl Try.underlying43 rfl rfl Try.sizeOf9 (c.n 13 rfl),
    Ob.d fun c => r_load1 rfl Try.isAgg9 (c.n 14 rfl) (((hT.at (st8.ext.trans c.J.ext)).rows).elem (j := 1) (nth_some (i := (k : Int)) (by omega) (by omega)) rfl),
    Ob.d fun c => r_lenS rfl Try.underlying9 (c.n 15 rfl),
    Ob.d fun c => r_sub rfl (c.n 9 rfl) (c.n 16 rfl) (by omega),
    Ob.d fun c => r_assign rfl (c.n 17 rfl), trivial⟩ ?_
   intro a10 w10 τ10 st10 f10
   obtain ⟨e2, e5, e36, e58, -⟩ := f10.ks [(2, _), (5, _), (36, _), (58, _)] ⟨e2, e5, e36, e58, trivial⟩
   have e1 : get a10 1 = (.int .i64 (l - 1 - (((nth t.rows ((k : Int))).1).size : Int) - (((nth t.rows ((k : Int))).2).size : Int))) := f10.v 18 rfl
   replace r0 := f10.ib 0 rfl
   clear f10
   show _
   show Code.wp _ _ _ a10 w10
   refine region_St (bf := [0, 1, 3]) (sp := [det _ 37 _, det _ 38 _, det _ 5 _]) [ib r0] mixed st10 (by kernel_rfl) ⟨r0, trivial⟩
    ⟨Ob.d fun c => r_move rfl (c.p e5),
    Ob.d fun c => r_add rfl (c.n 0 rfl) rfl (by omega),
    Ob.d fun c => r_assign rfl (c.n 1 rfl), trivial⟩ ?_
   intro a11 w11 τ11 st11 f11
   obtain ⟨e1, e2, e36, e58, -⟩ := f11.ks [(1, _), (2, _), (36, _), (58, _)] ⟨e1, e2, e36, e58, trivial⟩
   have e5 : get a11 5 = (.int .i64 ((k : Int) + 1)) := f11.v 2 rfl
   replace r0 := f11.ib 0 rfl
   clear f11
   refine ⟨⟨k + 1, l - 1 - (((nth t.rows ((k : Int))).1).size : Int) - (((nth t.rows ((k : Int))).2).size : Int), τ11, ?_, ?_, ?_, st11, (e1.trans (int_eq (by omega))), (e5.trans (int_eq (by omega))), e2, r0⟩, ?_⟩
   · omega
   · omega
   · exact rxRows_next q2 (by omega) hrr
   · simp only [m5, e5, intOf]; omega
 try simp only [decide_eq_false_iff_not, Int.not_lt] at hc2
 refine wp_exit ?_
 repeat (with_reducible refine then_exit ?_)
 refine exit_here ?_
 show Code.wp _ _ _ a7 w7
 refine wp_seq ?_
 refine wp_seq ?_
 refine region_St (bf := [0]) (sp := [det _ 6 _]) [ib r0] mixed st7 (by kernel_rfl) ⟨r0, trivial⟩
  ⟨Ob.d fun c => r_assign rfl rfl, trivial⟩ ?_
 intro a12 w12 τ12 st12 f12
 obtain ⟨e1, e2, -⟩ := f12.ks [(1, _), (2, _)] ⟨e1, e2, trivial⟩
 have e6 : get a12 6 = (.int .i64 (0)) := f12.v 0 rfl
 replace r0 := f12.ib 0 rfl
 clear f12
 show Code.wp _ _ _ a12 w12
 refine wp_block ?_
 refine wp_loop (fun a_ w_ => ∃ (j : Nat) (p : Int) (τ : Nat → Foot), (j ≤ t.kids.length) ∧
      (-1000000 ≤ p ∧ p ≤ 1000000) ∧
      (rxK t.kids l = rxK (t.kids.drop j) p) ∧
      St (Nw w) w 96 a_ w_ τ ∧
      get a_ 1 = (.int .i64 (p)) ∧
      get a_ 6 = (.int .i64 ((j : Int))) ∧
      get a_ 2 = b1x2 ∧
      boxR 25 [(.int .i64 (t.k)), (.string (t.ch)), (.bool (t.ng)), t.rv.v, (.int .i64 (t.mn)), (.int .i64 (t.mx)), (.bool (t.lz)), t.kv.v] (τ 0) b1x2 w_) (fun a_ _ => t.kids.length - (intOf (get a_ 6)).toNat) ?_ ?_
 · refine ⟨0, l, τ12, ?_, ?_, ?_, st12, (e1.trans (int_eq (by omega))), (e6.trans (int_eq (by omega))), e2, r0⟩
   · omega
   · omega
   · rfl
 intro a13 w13 hI
 obtain ⟨j, p, τ13, q0, q1, q2, st13, e1, e6, e2, r0⟩ := hI
 have m6 := e6
 refine wp_seq ?_
 refine wp_seq ?_
 refine region_St (bf := [0, 0, 2, 6, 15, 31, 63, 127, 255]) (sp := [det _ 77 _, det _ 78 _, det _ 79 _, det _ 80 _, det _ 81 _, det _ 82 _, gdet _ 83 _ _, gdet _ 84 _ _, det _ 85 _]) [ib r0] mixed st13 (by kernel_rfl) ⟨r0, trivial⟩
  ⟨Ob.d fun c => r_move rfl (c.p e6),
  Ob.d fun c => r_fieldAddr rfl Try.underlying25 rfl rfl Try.sizeOf23 ((c.p e2).trans r0.ptr),
  Ob.d fun c => r_load1 rfl Try.isAgg23 (c.n 1 rfl) ((c.ib 0 rfl).cell (j := 7) rfl),
  Ob.d fun c => r_len rfl Try.underlying23 (c.n 2 rfl) (hT.at st13.ext).tl.sl.sl,
  Ob.d fun c => r_lss rfl (c.n 0 rfl) (c.n 3 rfl),
  Ob.d fun c => r_move rfl (c.n 4 rfl),
  Ob.g 5 true rfl fun c hpc => r_move rfl (c.p e1),
  Ob.g 5 true rfl fun c hpc => r_geq rfl (c.m 6 rfl hpc) rfl,
  Ob.d fun c => r_and rfl (c.n 5 rfl) (fun h => c.m 7 rfl h), trivial⟩ ?_
 intro a14 w14 τ14 st14 f14
 obtain ⟨e1, e2, e6, -⟩ := f14.ks [(1, _), (2, _), (6, _)] ⟨e1, e2, e6, trivial⟩
 have e85 : get a14 85 = (.bool ((decide ((j : Int) < (t.kids.length : Int))) && (decide (0 ≤ p)))) := f14.v 8 rfl
 replace r0 := f14.ib 0 rfl
 clear f14
 show Code.wp _ _ _ a14 w14
 refine wp_cond_split (t := (decide ((j : Int) < (t.kids.length : Int))) && (decide (0 ≤ p))) e85 (fun hc4 => ?_) (fun hc4 => ?_)
 · have hd4 := hc4; try simp only [Bool.and_eq_true, decide_eq_true_eq] at hd4
   refine wp_skip ?_
   show Code.wp _ _ _ a14 w14
   refine wp_seq ?_
   refine wp_block ?_
   refine region_St (bf := [0, 1, 0, 7, 15, 0, 63, 127]) (sp := [det _ 88 _, det _ 89 _, det _ 90 _, det _ 91 _, det _ 92 _, det _ 93 _, det _ 94 _, det _ 1 _]) [ib r0] mixed st14 (by kernel_rfl) ⟨r0, trivial⟩
    ⟨Ob.d fun c => r_fieldAddr rfl Try.underlying25 rfl rfl Try.sizeOf23 ((c.p e2).trans r0.ptr),
    Ob.d fun c => r_load1 rfl Try.isAgg23 (c.n 0 rfl) ((c.ib 0 rfl).cell (j := 7) rfl),
    Ob.d fun c => r_move rfl (c.p e6),
    Ob.d fun c => r_indexAddr rfl Try.underlying23 Try.sizeOf25 (c.n 1 rfl) (hT.at st14.ext).tl.sl.sl (c.n 2 rfl) (by omega) (by omega),
    Ob.d fun c => r_loadN (vs := [(.int .i64 ((nth t.kids ((j : Int))).k)), (.string ((nth t.kids ((j : Int))).ch)), (.bool ((nth t.kids ((j : Int))).ng)), (nth t.kids ((j : Int))).rv.v, (.int .i64 ((nth t.kids ((j : Int))).mn)), (.int .i64 ((nth t.kids ((j : Int))).mx)), (.bool ((nth t.kids ((j : Int))).lz)), (nth t.kids ((j : Int))).kv.v]) rfl Try.isAgg25 Try.sizeOf25 (c.n 3 rfl) rfl (fun _ _ hj => ((hT.at (st14.ext.trans c.J.ext)).tl.sl).elem (nth_some (i := (j : Int)) (by omega) (by omega)) hj),
    Ob.d fun c => r_move rfl (c.p e1),
    Ob.c fun c => ⟨_, _, (e_call2 rfl rfl Try.call9 (c.n 4 rfl) (c.n 5 rfl)), ih _ (nth_memI (by omega) (by omega)) p _ ((hT.at (st14.ext.trans c.J.ext)).tl.el (by omega) (by omega)) (by omega)⟩,
    Ob.d fun c => r_assign rfl (c.n 6 rfl), trivial⟩ ?_
   intro a15 w15 τ15 st15 f15
   obtain ⟨e2, e6, e85, -⟩ := f15.ks [(2, _), (6, _), (85, _)] ⟨e2, e6, e85, trivial⟩
   have e1 : get a15 1 = (.int .i64 (rxF (nth t.kids ((j : Int))) p)) := f15.v 7 rfl
   replace r0 := f15.ib 0 rfl
   clear f15
   show _
   show Code.wp _ _ _ a15 w15
   refine region_St (bf := [0, 1, 3]) (sp := [det _ 86 _, det _ 87 _, det _ 6 _]) [ib r0] mixed st15 (by kernel_rfl) ⟨r0, trivial⟩
    ⟨Ob.d fun c => r_move rfl (c.p e6),
    Ob.d fun c => r_add rfl (c.n 0 rfl) rfl (by omega),
    Ob.d fun c => r_assign rfl (c.n 1 rfl), trivial⟩ ?_
   intro a16 w16 τ16 st16 f16
   obtain ⟨e1, e2, e85, -⟩ := f16.ks [(1, _), (2, _), (85, _)] ⟨e1, e2, e85, trivial⟩
   have e6 : get a16 6 = (.int .i64 ((j : Int) + 1)) := f16.v 2 rfl
   replace r0 := f16.ib 0 rfl
   clear f16
   refine ⟨⟨j + 1, rxF (nth t.kids ((j : Int))) p, τ16, ?_, ?_, ?_, st16, (e1.trans (int_eq (by omega))), (e6.trans (int_eq (by omega))), e2, r0⟩, ?_⟩
   · omega
   · exact rxF_range _ (by omega) (by omega)
   · exact rxK_next q2 (by omega) (by omega)
   · simp only [m6, e6, intOf]; omega
 have hd4 := hc4; try simp only [Bool.and_eq_false_iff, decide_eq_false_iff_not, Int.not_lt, Int.not_le] at hd4
 refine wp_exit ?_
 repeat (with_reducible refine then_exit ?_)
 refine exit_here ?_
 show Code.wp _ _ _ a14 w14
 refine wp_seq ?_
 refine region_St (bf := [0, 1]) (sp := [det _ 95 _, det _ 4 _]) [ib r0] mixed st14 (by kernel_rfl) ⟨r0, trivial⟩
  ⟨Ob.d fun c => r_move rfl (c.p e1),
  Ob.d fun c => r_assign rfl (c.n 0 rfl), trivial⟩ ?_
 intro a17 w17 τ17 st17 f17
 have e4 : get a17 4 = (.int .i64 (p)) := f17.v 1 rfl
 clear f17
 show Code.wp _ _ _ a17 w17
 refine wp_ret ?_
 repeat (first | with_reducible refine then_ret ?_ | with_reducible refine block_ret ?_)
 refine ret1 (fn := Try.f9) rfl st17.defers e4 ?_
 exact ⟨congrArg _ (int_eq (by first | exact (rxF_top (by assumption)).symm | exact (rxF_row htop (k := k) (by assumption) (by omega) (by assumption)).symm | exact (rxF_end htop (k := k) (m := l) (by assumption) (by omega) q2 (by omega)).symm)), st17.ext0⟩

theorem rx_c (t : Tr) : ∀ (n : Int) (w : World), TrS w t → -1000000 ≤ n ∧ n ≤ 1000000 → Calls Try.prog 9 #[t.v, .int .i64 n] w (fun e w' => e = .returned (.int .i64 (rxF t n)) ∧ Ext none' w w') := Tr.ind (P := fun t => ∀ (n : Int) (w : World), TrS w t → -1000000 ≤ n ∧ n ≤ 1000000 → Calls Try.prog 9 #[t.v, .int .i64 n] w (fun e w' => e = .returned (.int .i64 (rxF t n)) ∧ Ext none' w w')) rx_step t
end B
end Go.Proofs.Ytocmchlhbniloaa
