/-
  Walks, printed by a program (gen.py): SetB.
-/
import Derived.Test.YthaeepiichphjaaRowW
import Derived.Test.YthaeepiichphjaaSort2
set_option linter.unusedSimpArgs false
set_option linter.unusedVariables false
namespace Go.Proofs.Ythaeepiichphjaa
namespace B
open Go.RowKit
open Srt
set_option maxRecDepth 100000 in
theorem fold_c (s : ByteArray) (w : World) (hs : s.size ≤ 1000000000) : Calls Try.prog 32 #[(.string (s))] w (fun e w' => e = .returned (.string (foldT s)) ∧ Ext none' w w') := by
 refine enter (n := 29) Try.func32 rfl rfl (Nat.le_of_ble_eq_true rfl) ?_
 intro a0 τ0 ha st0
 have e0 : get a0 0 = (.string (s)) := ha 0 _ rfl
 clear ha
 have hbl := bs_len s
 have hbd : s.data.toList.length = s.size := bs_len s
 refine wp_seq ?_
 refine region_St (bf := [0]) (sp := [det _ 2 _]) [] mixed st0 (by kernel_rfl) trivial
  ⟨Ob.d fun c => r_assign rfl rfl, trivial⟩ ?_
 intro a1 w1 τ1 st1 f1
 obtain ⟨e0, -⟩ := f1.ks [(0, _)] ⟨e0, trivial⟩
 have e2 : get a1 2 = (.string ((⟨#[]⟩ : ByteArray))) := f1.v 0 rfl
 clear f1
 show Code.wp _ _ _ a1 w1
 refine wp_seq ?_
 refine region_St (bf := [0, 1, 3]) (sp := [det _ 6 _, byt 5 _ 0 7 _, byt 5 _ 0 3 _]) [] mixed st1 (by kernel_rfl) trivial
  ⟨Ob.d fun c => r_move rfl (c.p e0),
  Ob.toBytes rfl rfl rfl rfl Try.underlying9 Try.underlying39 Try.underlying5 (by first | omega | exact (u8w _).1 | exact (u8w _).2) fun c => (c.n 0 rfl),
  Ob.moveT (t0 := 7) rfl rfl rfl rfl rfl (.inr rfl) (fun _ _ _ _ c => ⟨c.ry 1 rfl, rfl⟩), trivial⟩ ?_
 intro a2 w2 τ2 st2 f2
 obtain ⟨b2x3, e3⟩ : ∃ b, get a2 3 = b := ⟨_, rfl⟩
 obtain ⟨e2, -⟩ := f2.ks [(2, _)] ⟨e2, trivial⟩
 have r0 : bytR 5 (s.data.toList) (τ2 0) b2x3 w2 := f2.ry 2 e3 rfl
 clear f2
 show Code.wp _ _ _ a2 w2
 refine wp_seq ?_
 refine wp_seq ?_
 refine region_St (bf := [0, 1, 0]) (sp := [det _ 8 _, det _ 9 _, det _ 10 _]) [iy r0] mixed st2 (by kernel_rfl) ⟨r0, trivial⟩
  ⟨Ob.d fun c => r_move rfl (c.p e3),
  Ob.d fun c => r_len rfl Try.underlying39 (c.n 0 rfl) r0.isSl,
  Ob.d fun c => r_move rfl rfl, trivial⟩ ?_
 intro a3 w3 τ3 st3 f3
 obtain ⟨e2, e3, -⟩ := f3.ks [(2, _), (3, _)] ⟨e2, e3, trivial⟩
 have e8 : get a3 8 = b2x3 := f3.v 0 rfl
 have e9 : get a3 9 = (.int .i64 ((s.data.toList.length : Int))) := f3.v 1 rfl
 have e10 : get a3 10 = (.int .i64 (0)) := f3.v 2 rfl
 replace r0 := f3.iy 0 rfl
 clear f3
 show Code.wp _ _ _ a3 w3
 refine wp_block ?_
 refine wp_loop (fun a_ w_ => ∃ (k : Nat) (τ : Nat → Foot), (k ≤ (bs s).length) ∧
      St (Nw w) w 29 a_ w_ τ ∧
      get a_ 10 = (.int .i64 ((k : Int))) ∧
      get a_ 2 = (.string ((⟨#[]⟩ : ByteArray))) ∧
      get a_ 3 = b2x3 ∧
      get a_ 8 = b2x3 ∧
      get a_ 9 = (.int .i64 ((s.data.toList.length : Int))) ∧
      bytR 5 (mapTo foldU (bs s) k) (τ 0) b2x3 w_) (fun a_ _ => (bs s).length - (intOf (get a_ 10)).toNat) ?_ ?_
 · refine ⟨0, τ3, ?_, st3, (e10.trans (int_eq (by omega))), e2, e3, e8, e9, ?_⟩
   · omega
   · exact r0.cast (by exact mapTo_zero _ _)
 intro a4 w4 hI
 obtain ⟨k, τ4, q0, st4, e10, e2, e3, e8, e9, r0⟩ := hI
 have hml := mapTo_len foldU (bs s) k
 have m10 := e10
 refine wp_seq ?_
 refine region_St (bf := [0]) (sp := [det _ 11 _]) [iy r0] mixed st4 (by kernel_rfl) ⟨r0, trivial⟩
  ⟨Ob.d fun c => r_lss rfl (c.p e10) (c.p e9), trivial⟩ ?_
 intro a5 w5 τ5 st5 f5
 obtain ⟨e2, e3, e8, e9, e10, -⟩ := f5.ks [(2, _), (3, _), (8, _), (9, _), (10, _)] ⟨e2, e3, e8, e9, e10, trivial⟩
 have e11 : get a5 11 = (.bool (decide ((k : Int) < (s.data.toList.length : Int)))) := f5.v 0 rfl
 replace r0 := f5.iy 0 rfl
 clear f5
 show Code.wp _ _ _ a5 w5
 refine wp_seq ?_
 refine wp_cond_split (t := decide ((k : Int) < (s.data.toList.length : Int))) e11 (fun hc1 => ?_) (fun hc1 => ?_)
 · try simp only [decide_eq_true_eq] at hc1
   refine wp_skip ?_
   show Code.wp _ _ _ a5 w5
   refine wp_seq ?_
   refine wp_block ?_
   refine wp_seq ?_
   refine region_St (bf := [0, 0, 2, 7, 15]) (sp := [det _ 12 _, det _ 13 _, det _ 14 _, det _ 4 _, det _ 5 _]) [iy r0] mixed st5 (by kernel_rfl) ⟨r0, trivial⟩
    ⟨Ob.d fun c => r_move rfl (c.p e10),
    Ob.d fun c => r_indexAddr rfl Try.underlying39 Try.sizeOf5 (c.p e8) r0.isSl (c.p e10) (by first | omega | exact (u8w _).1 | exact (u8w _).2) (by first | omega | exact (u8w _).1 | exact (u8w _).2),
    Ob.d fun c => r_load1 rfl Try.isAgg5 (c.n 1 rfl) (((c.iy 0 rfl).1.sl).elem (j := 0) (nth_some (i := (k : Int)) (by first | omega | exact (u8w _).1 | exact (u8w _).2) (by first | omega | exact (u8w _).1 | exact (u8w _).2)) rfl),
    Ob.d fun c => r_assign rfl (c.n 0 rfl),
    Ob.d fun c => r_assign rfl (c.n 2 rfl), trivial⟩ ?_
   intro a6 w6 τ6 st6 f6
   obtain ⟨e2, e3, e8, e9, e10, e11, -⟩ := f6.ks [(2, _), (3, _), (8, _), (9, _), (10, _), (11, _)] ⟨e2, e3, e8, e9, e10, e11, trivial⟩
   have e4 : get a6 4 = (.int .i64 ((k : Int))) := f6.v 3 rfl
   have e5 : get a6 5 = (.int .u8 (((nth (mapTo foldU (bs s) k) ((k : Int))).toNat : Int))) := f6.v 4 rfl
   replace r0 := f6.iy 0 rfl
   clear f6
   show Code.wp _ _ _ a6 w6
   refine wp_seq ?_
   refine region_St (bf := [0, 1, 3, 7, 15, 31]) (sp := [det _ 15 _, det _ 16 _, det _ 17 _, gdet _ 18 _ _, gdet _ 19 _ _, det _ 20 _]) [iy r0] mixed st6 (by kernel_rfl) ⟨r0, trivial⟩
    ⟨Ob.d fun c => r_move rfl (c.p e5),
    Ob.d fun c => r_geq rfl (c.n 0 rfl) rfl,
    Ob.d fun c => r_move rfl (c.n 1 rfl),
    Ob.g 2 true rfl fun c hpc => r_move rfl (c.p e5),
    Ob.g 2 true rfl fun c hpc => r_leq rfl (c.m 3 rfl hpc) rfl,
    Ob.d fun c => r_and rfl (c.n 2 rfl) (fun h => c.m 4 rfl h), trivial⟩ ?_
   intro a7 w7 τ7 st7 f7
   obtain ⟨e2, e3, e4, e5, e8, e9, e10, e11, -⟩ := f7.ks [(2, _), (3, _), (4, _), (5, _), (8, _), (9, _), (10, _), (11, _)] ⟨e2, e3, e4, e5, e8, e9, e10, e11, trivial⟩
   have e20 : get a7 20 = (.bool ((decide (65 ≤ ((nth (mapTo foldU (bs s) k) ((k : Int))).toNat : Int))) && (decide (((nth (mapTo foldU (bs s) k) ((k : Int))).toNat : Int) ≤ 90)))) := f7.v 5 rfl
   replace r0 := f7.iy 0 rfl
   clear f7
   show Code.wp _ _ _ a7 w7
   refine wp_cond_split (t := (decide (65 ≤ ((nth (mapTo foldU (bs s) k) ((k : Int))).toNat : Int))) && (decide (((nth (mapTo foldU (bs s) k) ((k : Int))).toNat : Int) ≤ 90))) e20 (fun hc2 => ?_) (fun hc2 => ?_)
   · have hd2 := hc2; try simp only [Bool.and_eq_true, decide_eq_true_eq] at hd2
     refine region_St (bf := [0, 0, 0, 4, 15, 31]) (sp := [det _ 21 _, det _ 22 _, det _ 23 _, det _ 24 _, det _ 25 _, byt 5 _ 0 3 _]) [iy r0] mixed st7 (by kernel_rfl) ⟨r0, trivial⟩
      ⟨Ob.d fun c => r_move rfl (c.p e3),
      Ob.d fun c => r_move rfl (c.p e4),
      Ob.d fun c => r_move rfl (c.p e5),
      Ob.d fun c => r_addW rfl (c.n 2 rfl) rfl,
      Ob.d fun c => r_indexAddr rfl Try.underlying39 Try.sizeOf5 (c.n 0 rfl) r0.isSl (c.n 1 rfl) (by first | omega | exact (u8w _).1 | exact (u8w _).2) (by first | omega | exact (u8w _).1 | exact (u8w _).2),
      Ob.storeY (i := ((k : Int)).toNat) (n := IntKind.u8.wrap (((nth (mapTo foldU (bs s) k) ((k : Int))).toNat : Int) + 32)) rfl rfl rfl rfl Try.sizeOf5 (by first | omega | exact (u8w _).1 | exact (u8w _).2) (by first | omega | exact (u8w _).1 | exact (u8w _).2) (by first | omega | exact (u8w _).1 | exact (u8w _).2) fun c => ⟨c.yp 0 rfl e3, c.ad (c.n 4 rfl) e3 rfl, (c.n 3 rfl)⟩, trivial⟩ ?_
     intro a8 w8 τ8 st8 f8
     obtain ⟨e2, e3, e4, e5, e8, e9, e10, e11, e20, -⟩ := f8.ks [(2, _), (3, _), (4, _), (5, _), (8, _), (9, _), (10, _), (11, _), (20, _)] ⟨e2, e3, e4, e5, e8, e9, e10, e11, e20, trivial⟩
     replace r0 : bytR 5 ((mapTo foldU (bs s) k).set ((k : Int)).toNat (UInt8.ofNat (IntKind.u8.wrap (((nth (mapTo foldU (bs s) k) ((k : Int))).toNat : Int) + 32)).toNat)) (τ8 0) b2x3 w8 := f8.ry 5 e3 rfl
     clear f8
     show _
     show Code.wp _ _ _ a8 w8
     refine region_St (bf := [0, 1]) (sp := [det _ 26 _, det _ 10 _]) [iy r0] mixed st8 (by kernel_rfl) ⟨r0, trivial⟩
      ⟨Ob.d fun c => r_add rfl (c.p e10) rfl (by first | omega | exact (u8w _).1 | exact (u8w _).2),
      Ob.d fun c => r_move rfl (c.n 0 rfl), trivial⟩ ?_
     intro a9 w9 τ9 st9 f9
     obtain ⟨e2, e3, e4, e5, e8, e9, e11, e20, -⟩ := f9.ks [(2, _), (3, _), (4, _), (5, _), (8, _), (9, _), (11, _), (20, _)] ⟨e2, e3, e4, e5, e8, e9, e11, e20, trivial⟩
     have e10 : get a9 10 = (.int .i64 ((k : Int) + 1)) := f9.v 1 rfl
     replace r0 := f9.iy 0 rfl
     clear f9
     refine ⟨⟨k + 1, τ9, ?_, st9, (e10.trans (int_eq (by omega))), e2, e3, e8, e9, ?_⟩, ?_⟩
     · omega
     · exact r0.cast (by first | exact fold_hit (by omega) (by assumption) | exact fold_miss (by omega) (by assumption))
     · simp only [m10, e10, intOf]; omega
   have hd2 := hc2; try simp only [Bool.and_eq_false_iff, decide_eq_false_iff_not, Int.not_le] at hd2
   refine wp_skip ?_
   show _
   show Code.wp _ _ _ a7 w7
   refine region_St (bf := [0, 1]) (sp := [det _ 26 _, det _ 10 _]) [iy r0] mixed st7 (by kernel_rfl) ⟨r0, trivial⟩
    ⟨Ob.d fun c => r_add rfl (c.p e10) rfl (by first | omega | exact (u8w _).1 | exact (u8w _).2),
    Ob.d fun c => r_move rfl (c.n 0 rfl), trivial⟩ ?_
   intro a10 w10 τ10 st10 f10
   obtain ⟨e2, e3, e4, e5, e8, e9, e11, e20, -⟩ := f10.ks [(2, _), (3, _), (4, _), (5, _), (8, _), (9, _), (11, _), (20, _)] ⟨e2, e3, e4, e5, e8, e9, e11, e20, trivial⟩
   have e10 : get a10 10 = (.int .i64 ((k : Int) + 1)) := f10.v 1 rfl
   replace r0 := f10.iy 0 rfl
   clear f10
   refine ⟨⟨k + 1, τ10, ?_, st10, (e10.trans (int_eq (by omega))), e2, e3, e8, e9, ?_⟩, ?_⟩
   · omega
   · exact r0.cast (by first | exact fold_hit (by omega) (by assumption) | exact fold_miss (by omega) (by assumption))
   · simp only [m10, e10, intOf]; omega
 try simp only [decide_eq_false_iff_not, Int.not_lt] at hc1
 refine wp_exit ?_
 repeat (with_reducible refine then_exit ?_)
 refine exit_here ?_
 show Code.wp _ _ _ a5 w5
 refine wp_seq ?_
 refine region_St (bf := [0, 1, 3]) (sp := [det _ 27 _, det _ 28 _, det _ 2 _]) [iy r0] mixed st5 (by kernel_rfl) ⟨r0, trivial⟩
  ⟨Ob.d fun c => r_move rfl (c.p e3),
  Ob.d fun c => r_ofBytes rfl Try.underlying39 Try.underlying5 Try.underlying9 (c.n 0 rfl) (c.iy 0 rfl).1.sl,
  Ob.d fun c => r_assign rfl (c.n 1 rfl), trivial⟩ ?_
 intro a11 w11 τ11 st11 f11
 have e2 : get a11 2 = (.string (⟨(mapTo foldU (bs s) k).toArray⟩)) := f11.v 2 rfl
 clear f11
 show Code.wp _ _ _ a11 w11
 refine wp_ret ?_
 repeat (first | with_reducible refine then_ret ?_ | with_reducible refine block_ret ?_)
 refine ret1 (fn := Try.f32) rfl st11.defers e2 ?_
 exact ⟨congrArg (fun l_ => Ending.returned (.string ⟨List.toArray l_⟩)) (mapTo_all (by omega)), st11.ext0⟩

set_option maxRecDepth 100000 in
theorem upper_c (s : ByteArray) (w : World) (hs : s.size ≤ 1000000000) : Calls Try.prog 33 #[(.string (s))] w (fun e w' => e = .returned (.string (upT s)) ∧ Ext none' w w') := by
 refine enter (n := 29) Try.func33 rfl rfl (Nat.le_of_ble_eq_true rfl) ?_
 intro a0 τ0 ha st0
 have e0 : get a0 0 = (.string (s)) := ha 0 _ rfl
 clear ha
 have hbl := bs_len s
 have hbd : s.data.toList.length = s.size := bs_len s
 refine wp_seq ?_
 refine region_St (bf := [0]) (sp := [det _ 2 _]) [] mixed st0 (by kernel_rfl) trivial
  ⟨Ob.d fun c => r_assign rfl rfl, trivial⟩ ?_
 intro a1 w1 τ1 st1 f1
 obtain ⟨e0, -⟩ := f1.ks [(0, _)] ⟨e0, trivial⟩
 have e2 : get a1 2 = (.string ((⟨#[]⟩ : ByteArray))) := f1.v 0 rfl
 clear f1
 show Code.wp _ _ _ a1 w1
 refine wp_seq ?_
 refine region_St (bf := [0, 1, 3]) (sp := [det _ 6 _, byt 5 _ 0 7 _, byt 5 _ 0 3 _]) [] mixed st1 (by kernel_rfl) trivial
  ⟨Ob.d fun c => r_move rfl (c.p e0),
  Ob.toBytes rfl rfl rfl rfl Try.underlying9 Try.underlying39 Try.underlying5 (by first | omega | exact (u8w _).1 | exact (u8w _).2) fun c => (c.n 0 rfl),
  Ob.moveT (t0 := 7) rfl rfl rfl rfl rfl (.inr rfl) (fun _ _ _ _ c => ⟨c.ry 1 rfl, rfl⟩), trivial⟩ ?_
 intro a2 w2 τ2 st2 f2
 obtain ⟨b2x3, e3⟩ : ∃ b, get a2 3 = b := ⟨_, rfl⟩
 obtain ⟨e2, -⟩ := f2.ks [(2, _)] ⟨e2, trivial⟩
 have r0 : bytR 5 (s.data.toList) (τ2 0) b2x3 w2 := f2.ry 2 e3 rfl
 clear f2
 show Code.wp _ _ _ a2 w2
 refine wp_seq ?_
 refine wp_seq ?_
 refine region_St (bf := [0, 1, 0]) (sp := [det _ 8 _, det _ 9 _, det _ 10 _]) [iy r0] mixed st2 (by kernel_rfl) ⟨r0, trivial⟩
  ⟨Ob.d fun c => r_move rfl (c.p e3),
  Ob.d fun c => r_len rfl Try.underlying39 (c.n 0 rfl) r0.isSl,
  Ob.d fun c => r_move rfl rfl, trivial⟩ ?_
 intro a3 w3 τ3 st3 f3
 obtain ⟨e2, e3, -⟩ := f3.ks [(2, _), (3, _)] ⟨e2, e3, trivial⟩
 have e8 : get a3 8 = b2x3 := f3.v 0 rfl
 have e9 : get a3 9 = (.int .i64 ((s.data.toList.length : Int))) := f3.v 1 rfl
 have e10 : get a3 10 = (.int .i64 (0)) := f3.v 2 rfl
 replace r0 := f3.iy 0 rfl
 clear f3
 show Code.wp _ _ _ a3 w3
 refine wp_block ?_
 refine wp_loop (fun a_ w_ => ∃ (k : Nat) (τ : Nat → Foot), (k ≤ (bs s).length) ∧
      St (Nw w) w 29 a_ w_ τ ∧
      get a_ 10 = (.int .i64 ((k : Int))) ∧
      get a_ 2 = (.string ((⟨#[]⟩ : ByteArray))) ∧
      get a_ 3 = b2x3 ∧
      get a_ 8 = b2x3 ∧
      get a_ 9 = (.int .i64 ((s.data.toList.length : Int))) ∧
      bytR 5 (mapTo upU (bs s) k) (τ 0) b2x3 w_) (fun a_ _ => (bs s).length - (intOf (get a_ 10)).toNat) ?_ ?_
 · refine ⟨0, τ3, ?_, st3, (e10.trans (int_eq (by omega))), e2, e3, e8, e9, ?_⟩
   · omega
   · exact r0.cast (by exact mapTo_zero _ _)
 intro a4 w4 hI
 obtain ⟨k, τ4, q0, st4, e10, e2, e3, e8, e9, r0⟩ := hI
 have hml := mapTo_len upU (bs s) k
 have m10 := e10
 refine wp_seq ?_
 refine region_St (bf := [0]) (sp := [det _ 11 _]) [iy r0] mixed st4 (by kernel_rfl) ⟨r0, trivial⟩
  ⟨Ob.d fun c => r_lss rfl (c.p e10) (c.p e9), trivial⟩ ?_
 intro a5 w5 τ5 st5 f5
 obtain ⟨e2, e3, e8, e9, e10, -⟩ := f5.ks [(2, _), (3, _), (8, _), (9, _), (10, _)] ⟨e2, e3, e8, e9, e10, trivial⟩
 have e11 : get a5 11 = (.bool (decide ((k : Int) < (s.data.toList.length : Int)))) := f5.v 0 rfl
 replace r0 := f5.iy 0 rfl
 clear f5
 show Code.wp _ _ _ a5 w5
 refine wp_seq ?_
 refine wp_cond_split (t := decide ((k : Int) < (s.data.toList.length : Int))) e11 (fun hc1 => ?_) (fun hc1 => ?_)
 · try simp only [decide_eq_true_eq] at hc1
   refine wp_skip ?_
   show Code.wp _ _ _ a5 w5
   refine wp_seq ?_
   refine wp_block ?_
   refine wp_seq ?_
   refine region_St (bf := [0, 0, 2, 7, 15]) (sp := [det _ 12 _, det _ 13 _, det _ 14 _, det _ 4 _, det _ 5 _]) [iy r0] mixed st5 (by kernel_rfl) ⟨r0, trivial⟩
    ⟨Ob.d fun c => r_move rfl (c.p e10),
    Ob.d fun c => r_indexAddr rfl Try.underlying39 Try.sizeOf5 (c.p e8) r0.isSl (c.p e10) (by first | omega | exact (u8w _).1 | exact (u8w _).2) (by first | omega | exact (u8w _).1 | exact (u8w _).2),
    Ob.d fun c => r_load1 rfl Try.isAgg5 (c.n 1 rfl) (((c.iy 0 rfl).1.sl).elem (j := 0) (nth_some (i := (k : Int)) (by first | omega | exact (u8w _).1 | exact (u8w _).2) (by first | omega | exact (u8w _).1 | exact (u8w _).2)) rfl),
    Ob.d fun c => r_assign rfl (c.n 0 rfl),
    Ob.d fun c => r_assign rfl (c.n 2 rfl), trivial⟩ ?_
   intro a6 w6 τ6 st6 f6
   obtain ⟨e2, e3, e8, e9, e10, e11, -⟩ := f6.ks [(2, _), (3, _), (8, _), (9, _), (10, _), (11, _)] ⟨e2, e3, e8, e9, e10, e11, trivial⟩
   have e4 : get a6 4 = (.int .i64 ((k : Int))) := f6.v 3 rfl
   have e5 : get a6 5 = (.int .u8 (((nth (mapTo upU (bs s) k) ((k : Int))).toNat : Int))) := f6.v 4 rfl
   replace r0 := f6.iy 0 rfl
   clear f6
   show Code.wp _ _ _ a6 w6
   refine wp_seq ?_
   refine region_St (bf := [0, 1, 3, 7, 15, 31]) (sp := [det _ 15 _, det _ 16 _, det _ 17 _, gdet _ 18 _ _, gdet _ 19 _ _, det _ 20 _]) [iy r0] mixed st6 (by kernel_rfl) ⟨r0, trivial⟩
    ⟨Ob.d fun c => r_move rfl (c.p e5),
    Ob.d fun c => r_geq rfl (c.n 0 rfl) rfl,
    Ob.d fun c => r_move rfl (c.n 1 rfl),
    Ob.g 2 true rfl fun c hpc => r_move rfl (c.p e5),
    Ob.g 2 true rfl fun c hpc => r_leq rfl (c.m 3 rfl hpc) rfl,
    Ob.d fun c => r_and rfl (c.n 2 rfl) (fun h => c.m 4 rfl h), trivial⟩ ?_
   intro a7 w7 τ7 st7 f7
   obtain ⟨e2, e3, e4, e5, e8, e9, e10, e11, -⟩ := f7.ks [(2, _), (3, _), (4, _), (5, _), (8, _), (9, _), (10, _), (11, _)] ⟨e2, e3, e4, e5, e8, e9, e10, e11, trivial⟩
   have e20 : get a7 20 = (.bool ((decide (97 ≤ ((nth (mapTo upU (bs s) k) ((k : Int))).toNat : Int))) && (decide (((nth (mapTo upU (bs s) k) ((k : Int))).toNat : Int) ≤ 122)))) := f7.v 5 rfl
   replace r0 := f7.iy 0 rfl
   clear f7
   show Code.wp _ _ _ a7 w7
   refine wp_cond_split (t := (decide (97 ≤ ((nth (mapTo upU (bs s) k) ((k : Int))).toNat : Int))) && (decide (((nth (mapTo upU (bs s) k) ((k : Int))).toNat : Int) ≤ 122))) e20 (fun hc2 => ?_) (fun hc2 => ?_)
   · have hd2 := hc2; try simp only [Bool.and_eq_true, decide_eq_true_eq] at hd2
     refine region_St (bf := [0, 0, 0, 4, 15, 31]) (sp := [det _ 21 _, det _ 22 _, det _ 23 _, det _ 24 _, det _ 25 _, byt 5 _ 0 3 _]) [iy r0] mixed st7 (by kernel_rfl) ⟨r0, trivial⟩
      ⟨Ob.d fun c => r_move rfl (c.p e3),
      Ob.d fun c => r_move rfl (c.p e4),
      Ob.d fun c => r_move rfl (c.p e5),
      Ob.d fun c => r_subW rfl (c.n 2 rfl) rfl,
      Ob.d fun c => r_indexAddr rfl Try.underlying39 Try.sizeOf5 (c.n 0 rfl) r0.isSl (c.n 1 rfl) (by first | omega | exact (u8w _).1 | exact (u8w _).2) (by first | omega | exact (u8w _).1 | exact (u8w _).2),
      Ob.storeY (i := ((k : Int)).toNat) (n := IntKind.u8.wrap (((nth (mapTo upU (bs s) k) ((k : Int))).toNat : Int) - 32)) rfl rfl rfl rfl Try.sizeOf5 (by first | omega | exact (u8w _).1 | exact (u8w _).2) (by first | omega | exact (u8w _).1 | exact (u8w _).2) (by first | omega | exact (u8w _).1 | exact (u8w _).2) fun c => ⟨c.yp 0 rfl e3, c.ad (c.n 4 rfl) e3 rfl, (c.n 3 rfl)⟩, trivial⟩ ?_
     intro a8 w8 τ8 st8 f8
     obtain ⟨e2, e3, e4, e5, e8, e9, e10, e11, e20, -⟩ := f8.ks [(2, _), (3, _), (4, _), (5, _), (8, _), (9, _), (10, _), (11, _), (20, _)] ⟨e2, e3, e4, e5, e8, e9, e10, e11, e20, trivial⟩
     replace r0 : bytR 5 ((mapTo upU (bs s) k).set ((k : Int)).toNat (UInt8.ofNat (IntKind.u8.wrap (((nth (mapTo upU (bs s) k) ((k : Int))).toNat : Int) - 32)).toNat)) (τ8 0) b2x3 w8 := f8.ry 5 e3 rfl
     clear f8
     show _
     show Code.wp _ _ _ a8 w8
     refine region_St (bf := [0, 1]) (sp := [det _ 26 _, det _ 10 _]) [iy r0] mixed st8 (by kernel_rfl) ⟨r0, trivial⟩
      ⟨Ob.d fun c => r_add rfl (c.p e10) rfl (by first | omega | exact (u8w _).1 | exact (u8w _).2),
      Ob.d fun c => r_move rfl (c.n 0 rfl), trivial⟩ ?_
     intro a9 w9 τ9 st9 f9
     obtain ⟨e2, e3, e4, e5, e8, e9, e11, e20, -⟩ := f9.ks [(2, _), (3, _), (4, _), (5, _), (8, _), (9, _), (11, _), (20, _)] ⟨e2, e3, e4, e5, e8, e9, e11, e20, trivial⟩
     have e10 : get a9 10 = (.int .i64 ((k : Int) + 1)) := f9.v 1 rfl
     replace r0 := f9.iy 0 rfl
     clear f9
     refine ⟨⟨k + 1, τ9, ?_, st9, (e10.trans (int_eq (by omega))), e2, e3, e8, e9, ?_⟩, ?_⟩
     · omega
     · exact r0.cast (by first | exact up_hit (by omega) (by assumption) | exact up_miss (by omega) (by assumption))
     · simp only [m10, e10, intOf]; omega
   have hd2 := hc2; try simp only [Bool.and_eq_false_iff, decide_eq_false_iff_not, Int.not_le] at hd2
   refine wp_skip ?_
   show _
   show Code.wp _ _ _ a7 w7
   refine region_St (bf := [0, 1]) (sp := [det _ 26 _, det _ 10 _]) [iy r0] mixed st7 (by kernel_rfl) ⟨r0, trivial⟩
    ⟨Ob.d fun c => r_add rfl (c.p e10) rfl (by first | omega | exact (u8w _).1 | exact (u8w _).2),
    Ob.d fun c => r_move rfl (c.n 0 rfl), trivial⟩ ?_
   intro a10 w10 τ10 st10 f10
   obtain ⟨e2, e3, e4, e5, e8, e9, e11, e20, -⟩ := f10.ks [(2, _), (3, _), (4, _), (5, _), (8, _), (9, _), (11, _), (20, _)] ⟨e2, e3, e4, e5, e8, e9, e11, e20, trivial⟩
   have e10 : get a10 10 = (.int .i64 ((k : Int) + 1)) := f10.v 1 rfl
   replace r0 := f10.iy 0 rfl
   clear f10
   refine ⟨⟨k + 1, τ10, ?_, st10, (e10.trans (int_eq (by omega))), e2, e3, e8, e9, ?_⟩, ?_⟩
   · omega
   · exact r0.cast (by first | exact up_hit (by omega) (by assumption) | exact up_miss (by omega) (by assumption))
   · simp only [m10, e10, intOf]; omega
 try simp only [decide_eq_false_iff_not, Int.not_lt] at hc1
 refine wp_exit ?_
 repeat (with_reducible refine then_exit ?_)
 refine exit_here ?_
 show Code.wp _ _ _ a5 w5
 refine wp_seq ?_
 refine region_St (bf := [0, 1, 3]) (sp := [det _ 27 _, det _ 28 _, det _ 2 _]) [iy r0] mixed st5 (by kernel_rfl) ⟨r0, trivial⟩
  ⟨Ob.d fun c => r_move rfl (c.p e3),
  Ob.d fun c => r_ofBytes rfl Try.underlying39 Try.underlying5 Try.underlying9 (c.n 0 rfl) (c.iy 0 rfl).1.sl,
  Ob.d fun c => r_assign rfl (c.n 1 rfl), trivial⟩ ?_
 intro a11 w11 τ11 st11 f11
 have e2 : get a11 2 = (.string (⟨(mapTo upU (bs s) k).toArray⟩)) := f11.v 2 rfl
 clear f11
 show Code.wp _ _ _ a11 w11
 refine wp_ret ?_
 repeat (first | with_reducible refine then_ret ?_ | with_reducible refine block_ret ?_)
 refine ret1 (fn := Try.f33) rfl st11.defers e2 ?_
 exact ⟨congrArg (fun l_ => Ending.returned (.string ⟨List.toArray l_⟩)) (mapTo_all (by omega)), st11.ext0⟩

set_option maxRecDepth 100000 in
theorem refFold_c (s : ByteArray) (w : World) (hs : s.size ≤ 1000000000) : Calls Try.prog 21 #[(.string (s))] w (fun e w' => e = .returned (.string (foldT s)) ∧ Ext none' w w') := by
 refine enter (n := 35) Try.func21 rfl rfl (Nat.le_of_ble_eq_true rfl) ?_
 intro a0 τ0 ha st0
 have e0 : get a0 0 = (.string (s)) := ha 0 _ rfl
 clear ha
 have hbl := bs_len s
 have hbd : s.data.toList.length = s.size := bs_len s
 refine wp_seq ?_
 refine region_St (bf := [0]) (sp := [det _ 2 _]) [] mixed st0 (by kernel_rfl) trivial
  ⟨Ob.d fun c => r_assign rfl rfl, trivial⟩ ?_
 intro a1 w1 τ1 st1 f1
 obtain ⟨e0, -⟩ := f1.ks [(0, _)] ⟨e0, trivial⟩
 have e2 : get a1 2 = (.string ((⟨#[]⟩ : ByteArray))) := f1.v 0 rfl
 clear f1
 show Code.wp _ _ _ a1 w1
 refine wp_seq ?_
 refine region_St (bf := [0, 1, 3]) (sp := [det _ 5 _, byt 5 _ 0 6 _, byt 5 _ 0 3 _]) [] mixed st1 (by kernel_rfl) trivial
  ⟨Ob.d fun c => r_move rfl (c.p e0),
  Ob.toBytes rfl rfl rfl rfl Try.underlying9 Try.underlying39 Try.underlying5 (by first | omega | exact (u8w _).1 | exact (u8w _).2) fun c => (c.n 0 rfl),
  Ob.moveT (t0 := 6) rfl rfl rfl rfl rfl (.inr rfl) (fun _ _ _ _ c => ⟨c.ry 1 rfl, rfl⟩), trivial⟩ ?_
 intro a2 w2 τ2 st2 f2
 obtain ⟨b2x3, e3⟩ : ∃ b, get a2 3 = b := ⟨_, rfl⟩
 obtain ⟨e2, -⟩ := f2.ks [(2, _)] ⟨e2, trivial⟩
 have r0 : bytR 5 (s.data.toList) (τ2 0) b2x3 w2 := f2.ry 2 e3 rfl
 clear f2
 show Code.wp _ _ _ a2 w2
 refine wp_seq ?_
 refine wp_seq ?_
 refine region_St (bf := [0]) (sp := [det _ 4 _]) [iy r0] mixed st2 (by kernel_rfl) ⟨r0, trivial⟩
  ⟨Ob.d fun c => r_assign rfl rfl, trivial⟩ ?_
 intro a3 w3 τ3 st3 f3
 obtain ⟨e2, e3, -⟩ := f3.ks [(2, _), (3, _)] ⟨e2, e3, trivial⟩
 have e4 : get a3 4 = (.int .i64 (0)) := f3.v 0 rfl
 replace r0 := f3.iy 0 rfl
 clear f3
 show Code.wp _ _ _ a3 w3
 refine wp_block ?_
 refine wp_loop (fun a_ w_ => ∃ (k : Nat) (τ : Nat → Foot), (k ≤ (bs s).length) ∧
      St (Nw w) w 35 a_ w_ τ ∧
      get a_ 4 = (.int .i64 ((k : Int))) ∧
      get a_ 2 = (.string ((⟨#[]⟩ : ByteArray))) ∧
      get a_ 3 = b2x3 ∧
      bytR 5 (mapTo foldU (bs s) k) (τ 0) b2x3 w_) (fun a_ _ => (bs s).length - (intOf (get a_ 4)).toNat) ?_ ?_
 · refine ⟨0, τ3, ?_, st3, (e4.trans (int_eq (by omega))), e2, e3, ?_⟩
   · omega
   · exact r0.cast (by exact mapTo_zero _ _)
 intro a4 w4 hI
 obtain ⟨k, τ4, q0, st4, e4, e2, e3, r0⟩ := hI
 have hml := mapTo_len foldU (bs s) k
 have m4 := e4
 refine wp_seq ?_
 refine wp_seq ?_
 refine region_St (bf := [0, 0, 2, 7]) (sp := [det _ 7 _, det _ 8 _, det _ 9 _, det _ 10 _]) [iy r0] mixed st4 (by kernel_rfl) ⟨r0, trivial⟩
  ⟨Ob.d fun c => r_move rfl (c.p e4),
  Ob.d fun c => r_move rfl (c.p e3),
  Ob.d fun c => r_len rfl Try.underlying39 (c.n 1 rfl) r0.isSl,
  Ob.d fun c => r_lss rfl (c.n 0 rfl) (c.n 2 rfl), trivial⟩ ?_
 intro a5 w5 τ5 st5 f5
 obtain ⟨e2, e3, e4, -⟩ := f5.ks [(2, _), (3, _), (4, _)] ⟨e2, e3, e4, trivial⟩
 have e10 : get a5 10 = (.bool (decide ((k : Int) < ((mapTo foldU (bs s) k).length : Int)))) := f5.v 3 rfl
 replace r0 := f5.iy 0 rfl
 clear f5
 show Code.wp _ _ _ a5 w5
 refine wp_cond_split (t := decide ((k : Int) < ((mapTo foldU (bs s) k).length : Int))) e10 (fun hc1 => ?_) (fun hc1 => ?_)
 · try simp only [decide_eq_true_eq] at hc1
   refine wp_skip ?_
   show Code.wp _ _ _ a5 w5
   refine wp_seq ?_
   refine wp_block ?_
   refine wp_seq ?_
   refine region_St (bf := [0, 0, 3, 7, 15, 31, 63, 63, 255, 511, 1023, 2047]) (sp := [det _ 13 _, det _ 14 _, det _ 15 _, det _ 16 _, det _ 17 _, det _ 18 _, gdet _ 19 _ _, gdet _ 20 _ _, gdet _ 21 _ _, gdet _ 22 _ _, gdet _ 23 _ _, det _ 24 _]) [iy r0] mixed st5 (by kernel_rfl) ⟨r0, trivial⟩
    ⟨Ob.d fun c => r_move rfl (c.p e3),
    Ob.d fun c => r_move rfl (c.p e4),
    Ob.d fun c => r_indexAddr rfl Try.underlying39 Try.sizeOf5 (c.n 0 rfl) r0.isSl (c.n 1 rfl) (by first | omega | exact (u8w _).1 | exact (u8w _).2) (by first | omega | exact (u8w _).1 | exact (u8w _).2),
    Ob.d fun c => r_load1 rfl Try.isAgg5 (c.n 2 rfl) (((c.iy 0 rfl).1.sl).elem (j := 0) (nth_some (i := (k : Int)) (by first | omega | exact (u8w _).1 | exact (u8w _).2) (by first | omega | exact (u8w _).1 | exact (u8w _).2)) rfl),
    Ob.d fun c => r_geq rfl (c.n 3 rfl) rfl,
    Ob.d fun c => r_move rfl (c.n 4 rfl),
    Ob.g 5 true rfl fun c hpc => r_move rfl (c.p e3),
    Ob.g 5 true rfl fun c hpc => r_move rfl (c.p e4),
    Ob.g 5 true rfl fun c hpc => r_indexAddr rfl Try.underlying39 Try.sizeOf5 (c.m 6 rfl hpc) r0.isSl (c.m 7 rfl hpc) (by have hq0 := bt hpc; first | omega | exact (u8w _).1 | exact (u8w _).2) (by have hq0 := bt hpc; first | omega | exact (u8w _).1 | exact (u8w _).2),
    Ob.g 5 true rfl fun c hpc => r_load1 rfl Try.isAgg5 (c.m 8 rfl hpc) (((c.iy 0 rfl).1.sl).elem (j := 0) (nth_some (i := (k : Int)) (by have hq0 := bt hpc; first | omega | exact (u8w _).1 | exact (u8w _).2) (by have hq0 := bt hpc; first | omega | exact (u8w _).1 | exact (u8w _).2)) rfl),
    Ob.g 5 true rfl fun c hpc => r_leq rfl (c.m 9 rfl hpc) rfl,
    Ob.d fun c => r_and rfl (c.n 5 rfl) (fun h => c.m 10 rfl h), trivial⟩ ?_
   intro a6 w6 τ6 st6 f6
   obtain ⟨e2, e3, e4, e10, -⟩ := f6.ks [(2, _), (3, _), (4, _), (10, _)] ⟨e2, e3, e4, e10, trivial⟩
   have e24 : get a6 24 = (.bool ((decide (65 ≤ ((nth (mapTo foldU (bs s) k) ((k : Int))).toNat : Int))) && (decide (((nth (mapTo foldU (bs s) k) ((k : Int))).toNat : Int) ≤ 90)))) := f6.v 11 rfl
   replace r0 := f6.iy 0 rfl
   clear f6
   show Code.wp _ _ _ a6 w6
   refine wp_cond_split (t := (decide (65 ≤ ((nth (mapTo foldU (bs s) k) ((k : Int))).toNat : Int))) && (decide (((nth (mapTo foldU (bs s) k) ((k : Int))).toNat : Int) ≤ 90))) e24 (fun hc2 => ?_) (fun hc2 => ?_)
   · have hd2 := hc2; try simp only [Bool.and_eq_true, decide_eq_true_eq] at hd2
     refine region_St (bf := [0, 0, 0, 0, 12, 28, 60, 127, 255]) (sp := [det _ 25 _, det _ 26 _, det _ 27 _, det _ 28 _, det _ 29 _, det _ 30 _, det _ 31 _, det _ 32 _, byt 5 _ 0 3 _]) [iy r0] mixed st6 (by kernel_rfl) ⟨r0, trivial⟩
      ⟨Ob.d fun c => r_move rfl (c.p e3),
      Ob.d fun c => r_move rfl (c.p e4),
      Ob.d fun c => r_move rfl (c.p e3),
      Ob.d fun c => r_move rfl (c.p e4),
      Ob.d fun c => r_indexAddr rfl Try.underlying39 Try.sizeOf5 (c.n 2 rfl) r0.isSl (c.n 3 rfl) (by first | omega | exact (u8w _).1 | exact (u8w _).2) (by first | omega | exact (u8w _).1 | exact (u8w _).2),
      Ob.d fun c => r_load1 rfl Try.isAgg5 (c.n 4 rfl) (((c.iy 0 rfl).1.sl).elem (j := 0) (nth_some (i := (k : Int)) (by first | omega | exact (u8w _).1 | exact (u8w _).2) (by first | omega | exact (u8w _).1 | exact (u8w _).2)) rfl),
      Ob.d fun c => r_addW rfl (c.n 5 rfl) rfl,
      Ob.d fun c => r_indexAddr rfl Try.underlying39 Try.sizeOf5 (c.n 0 rfl) r0.isSl (c.n 1 rfl) (by first | omega | exact (u8w _).1 | exact (u8w _).2) (by first | omega | exact (u8w _).1 | exact (u8w _).2),
      Ob.storeY (i := ((k : Int)).toNat) (n := IntKind.u8.wrap (((nth (mapTo foldU (bs s) k) ((k : Int))).toNat : Int) + 32)) rfl rfl rfl rfl Try.sizeOf5 (by first | omega | exact (u8w _).1 | exact (u8w _).2) (by first | omega | exact (u8w _).1 | exact (u8w _).2) (by first | omega | exact (u8w _).1 | exact (u8w _).2) fun c => ⟨c.yp 0 rfl e3, c.ad (c.n 7 rfl) e3 rfl, (c.n 6 rfl)⟩, trivial⟩ ?_
     intro a7 w7 τ7 st7 f7
     obtain ⟨e2, e3, e4, e10, e24, -⟩ := f7.ks [(2, _), (3, _), (4, _), (10, _), (24, _)] ⟨e2, e3, e4, e10, e24, trivial⟩
     replace r0 : bytR 5 ((mapTo foldU (bs s) k).set ((k : Int)).toNat (UInt8.ofNat (IntKind.u8.wrap (((nth (mapTo foldU (bs s) k) ((k : Int))).toNat : Int) + 32)).toNat)) (τ7 0) b2x3 w7 := f7.ry 8 e3 rfl
     clear f7
     show _
     show Code.wp _ _ _ a7 w7
     refine region_St (bf := [0, 1, 3]) (sp := [det _ 11 _, det _ 12 _, det _ 4 _]) [iy r0] mixed st7 (by kernel_rfl) ⟨r0, trivial⟩
      ⟨Ob.d fun c => r_move rfl (c.p e4),
      Ob.d fun c => r_add rfl (c.n 0 rfl) rfl (by first | omega | exact (u8w _).1 | exact (u8w _).2),
      Ob.d fun c => r_assign rfl (c.n 1 rfl), trivial⟩ ?_
     intro a8 w8 τ8 st8 f8
     obtain ⟨e2, e3, e10, e24, -⟩ := f8.ks [(2, _), (3, _), (10, _), (24, _)] ⟨e2, e3, e10, e24, trivial⟩
     have e4 : get a8 4 = (.int .i64 ((k : Int) + 1)) := f8.v 2 rfl
     replace r0 := f8.iy 0 rfl
     clear f8
     refine ⟨⟨k + 1, τ8, ?_, st8, (e4.trans (int_eq (by omega))), e2, e3, ?_⟩, ?_⟩
     · omega
     · exact r0.cast (by first | exact fold_hit (by omega) (by assumption) | exact fold_miss (by omega) (by assumption))
     · simp only [m4, e4, intOf]; omega
   have hd2 := hc2; try simp only [Bool.and_eq_false_iff, decide_eq_false_iff_not, Int.not_le] at hd2
   refine wp_skip ?_
   show _
   show Code.wp _ _ _ a6 w6
   refine region_St (bf := [0, 1, 3]) (sp := [det _ 11 _, det _ 12 _, det _ 4 _]) [iy r0] mixed st6 (by kernel_rfl) ⟨r0, trivial⟩
    ⟨Ob.d fun c => r_move rfl (c.p e4),
    Ob.d fun c => r_add rfl (c.n 0 rfl) rfl (by first | omega | exact (u8w _).1 | exact (u8w _).2),
    Ob.d fun c => r_assign rfl (c.n 1 rfl), trivial⟩ ?_
   intro a9 w9 τ9 st9 f9
   obtain ⟨e2, e3, e10, e24, -⟩ := f9.ks [(2, _), (3, _), (10, _), (24, _)] ⟨e2, e3, e10, e24, trivial⟩
   have e4 : get a9 4 = (.int .i64 ((k : Int) + 1)) := f9.v 2 rfl
   replace r0 := f9.iy 0 rfl
   clear f9
   refine ⟨⟨k + 1, τ9, ?_, st9, (e4.trans (int_eq (by omega))), e2, e3, ?_⟩, ?_⟩
   · omega
   · exact r0.cast (by first | exact fold_hit (by omega) (by assumption) | exact fold_miss (by omega) (by assumption))
   · simp only [m4, e4, intOf]; omega
 try simp only [decide_eq_false_iff_not, Int.not_lt] at hc1
 refine wp_exit ?_
 repeat (with_reducible refine then_exit ?_)
 refine exit_here ?_
 show Code.wp _ _ _ a5 w5
 refine wp_seq ?_
 refine region_St (bf := [0, 1, 3]) (sp := [det _ 33 _, det _ 34 _, det _ 2 _]) [iy r0] mixed st5 (by kernel_rfl) ⟨r0, trivial⟩
  ⟨Ob.d fun c => r_move rfl (c.p e3),
  Ob.d fun c => r_ofBytes rfl Try.underlying39 Try.underlying5 Try.underlying9 (c.n 0 rfl) (c.iy 0 rfl).1.sl,
  Ob.d fun c => r_assign rfl (c.n 1 rfl), trivial⟩ ?_
 intro a10 w10 τ10 st10 f10
 have e2 : get a10 2 = (.string (⟨(mapTo foldU (bs s) k).toArray⟩)) := f10.v 2 rfl
 clear f10
 show Code.wp _ _ _ a10 w10
 refine wp_ret ?_
 repeat (first | with_reducible refine then_ret ?_ | with_reducible refine block_ret ?_)
 refine ret1 (fn := Try.f21) rfl st10.defers e2 ?_
 exact ⟨congrArg (fun l_ => Ending.returned (.string ⟨List.toArray l_⟩)) (mapTo_all (by omega)), st10.ext0⟩

set_option maxRecDepth 100000 in
theorem refUpper_c (s : ByteArray) (w : World) (hs : s.size ≤ 1000000000) : Calls Try.prog 22 #[(.string (s))] w (fun e w' => e = .returned (.string (upT s)) ∧ Ext none' w w') := by
 refine enter (n := 35) Try.func22 rfl rfl (Nat.le_of_ble_eq_true rfl) ?_
 intro a0 τ0 ha st0
 have e0 : get a0 0 = (.string (s)) := ha 0 _ rfl
 clear ha
 have hbl := bs_len s
 have hbd : s.data.toList.length = s.size := bs_len s
 refine wp_seq ?_
 refine region_St (bf := [0]) (sp := [det _ 2 _]) [] mixed st0 (by kernel_rfl) trivial
  ⟨Ob.d fun c => r_assign rfl rfl, trivial⟩ ?_
 intro a1 w1 τ1 st1 f1
 obtain ⟨e0, -⟩ := f1.ks [(0, _)] ⟨e0, trivial⟩
 have e2 : get a1 2 = (.string ((⟨#[]⟩ : ByteArray))) := f1.v 0 rfl
 clear f1
 show Code.wp _ _ _ a1 w1
 refine wp_seq ?_
 refine region_St (bf := [0, 1, 3]) (sp := [det _ 5 _, byt 5 _ 0 6 _, byt 5 _ 0 3 _]) [] mixed st1 (by kernel_rfl) trivial
  ⟨Ob.d fun c => r_move rfl (c.p e0),
  Ob.toBytes rfl rfl rfl rfl Try.underlying9 Try.underlying39 Try.underlying5 (by first | omega | exact (u8w _).1 | exact (u8w _).2) fun c => (c.n 0 rfl),
  Ob.moveT (t0 := 6) rfl rfl rfl rfl rfl (.inr rfl) (fun _ _ _ _ c => ⟨c.ry 1 rfl, rfl⟩), trivial⟩ ?_
 intro a2 w2 τ2 st2 f2
 obtain ⟨b2x3, e3⟩ : ∃ b, get a2 3 = b := ⟨_, rfl⟩
 obtain ⟨e2, -⟩ := f2.ks [(2, _)] ⟨e2, trivial⟩
 have r0 : bytR 5 (s.data.toList) (τ2 0) b2x3 w2 := f2.ry 2 e3 rfl
 clear f2
 show Code.wp _ _ _ a2 w2
 refine wp_seq ?_
 refine wp_seq ?_
 refine region_St (bf := [0]) (sp := [det _ 4 _]) [iy r0] mixed st2 (by kernel_rfl) ⟨r0, trivial⟩
  ⟨Ob.d fun c => r_assign rfl rfl, trivial⟩ ?_
 intro a3 w3 τ3 st3 f3
 obtain ⟨e2, e3, -⟩ := f3.ks [(2, _), (3, _)] ⟨e2, e3, trivial⟩
 have e4 : get a3 4 = (.int .i64 (0)) := f3.v 0 rfl
 replace r0 := f3.iy 0 rfl
 clear f3
 show Code.wp _ _ _ a3 w3
 refine wp_block ?_
 refine wp_loop (fun a_ w_ => ∃ (k : Nat) (τ : Nat → Foot), (k ≤ (bs s).length) ∧
      St (Nw w) w 35 a_ w_ τ ∧
      get a_ 4 = (.int .i64 ((k : Int))) ∧
      get a_ 2 = (.string ((⟨#[]⟩ : ByteArray))) ∧
      get a_ 3 = b2x3 ∧
      bytR 5 (mapTo upU (bs s) k) (τ 0) b2x3 w_) (fun a_ _ => (bs s).length - (intOf (get a_ 4)).toNat) ?_ ?_
 · refine ⟨0, τ3, ?_, st3, (e4.trans (int_eq (by omega))), e2, e3, ?_⟩
   · omega
   · exact r0.cast (by exact mapTo_zero _ _)
 intro a4 w4 hI
 obtain ⟨k, τ4, q0, st4, e4, e2, e3, r0⟩ := hI
 have hml := mapTo_len upU (bs s) k
 have m4 := e4
 refine wp_seq ?_
 refine wp_seq ?_
 refine region_St (bf := [0, 0, 2, 7]) (sp := [det _ 7 _, det _ 8 _, det _ 9 _, det _ 10 _]) [iy r0] mixed st4 (by kernel_rfl) ⟨r0, trivial⟩
  ⟨Ob.d fun c => r_move rfl (c.p e4),
  Ob.d fun c => r_move rfl (c.p e3),
  Ob.d fun c => r_len rfl Try.underlying39 (c.n 1 rfl) r0.isSl,
  Ob.d fun c => r_lss rfl (c.n 0 rfl) (c.n 2 rfl), trivial⟩ ?_
 intro a5 w5 τ5 st5 f5
 obtain ⟨e2, e3, e4, -⟩ := f5.ks [(2, _), (3, _), (4, _)] ⟨e2, e3, e4, trivial⟩
 have e10 : get a5 10 = (.bool (decide ((k : Int) < ((mapTo upU (bs s) k).length : Int)))) := f5.v 3 rfl
 replace r0 := f5.iy 0 rfl
 clear f5
 show Code.wp _ _ _ a5 w5
 refine wp_cond_split (t := decide ((k : Int) < ((mapTo upU (bs s) k).length : Int))) e10 (fun hc1 => ?_) (fun hc1 => ?_)
 · try simp only [decide_eq_true_eq] at hc1
   refine wp_skip ?_
   show Code.wp _ _ _ a5 w5
   refine wp_seq ?_
   refine wp_block ?_
   refine wp_seq ?_
   refine region_St (bf := [0, 0, 3, 7, 15, 31, 63, 63, 255, 511, 1023, 2047]) (sp := [det _ 13 _, det _ 14 _, det _ 15 _, det _ 16 _, det _ 17 _, det _ 18 _, gdet _ 19 _ _, gdet _ 20 _ _, gdet _ 21 _ _, gdet _ 22 _ _, gdet _ 23 _ _, det _ 24 _]) [iy r0] mixed st5 (by kernel_rfl) ⟨r0, trivial⟩
    ⟨Ob.d fun c => r_move rfl (c.p e3),
    Ob.d fun c => r_move rfl (c.p e4),
    Ob.d fun c => r_indexAddr rfl Try.underlying39 Try.sizeOf5 (c.n 0 rfl) r0.isSl (c.n 1 rfl) (by first | omega | exact (u8w _).1 | exact (u8w _).2) (by first | omega | exact (u8w _).1 | exact (u8w _).2),
    Ob.d fun c => r_load1 rfl Try.isAgg5 (c.n 2 rfl) (((c.iy 0 rfl).1.sl).elem (j := 0) (nth_some (i := (k : Int)) (by first | omega | exact (u8w _).1 | exact (u8w _).2) (by first | omega | exact (u8w _).1 | exact (u8w _).2)) rfl),
    Ob.d fun c => r_geq rfl (c.n 3 rfl) rfl,
    Ob.d fun c => r_move rfl (c.n 4 rfl),
    Ob.g 5 true rfl fun c hpc => r_move rfl (c.p e3),
    Ob.g 5 true rfl fun c hpc => r_move rfl (c.p e4),
    Ob.g 5 true rfl fun c hpc => r_indexAddr rfl Try.underlying39 Try.sizeOf5 (c.m 6 rfl hpc) r0.isSl (c.m 7 rfl hpc) (by have hq0 := bt hpc; first | omega | exact (u8w _).1 | exact (u8w _).2) (by have hq0 := bt hpc; first | omega | exact (u8w _).1 | exact (u8w _).2),
    Ob.g 5 true rfl fun c hpc => r_load1 rfl Try.isAgg5 (c.m 8 rfl hpc) (((c.iy 0 rfl).1.sl).elem (j := 0) (nth_some (i := (k : Int)) (by have hq0 := bt hpc; first | omega | exact (u8w _).1 | exact (u8w _).2) (by have hq0 := bt hpc; first | omega | exact (u8w _).1 | exact (u8w _).2)) rfl),
    Ob.g 5 true rfl fun c hpc => r_leq rfl (c.m 9 rfl hpc) rfl,
    Ob.d fun c => r_and rfl (c.n 5 rfl) (fun h => c.m 10 rfl h), trivial⟩ ?_
   intro a6 w6 τ6 st6 f6
   obtain ⟨e2, e3, e4, e10, -⟩ := f6.ks [(2, _), (3, _), (4, _), (10, _)] ⟨e2, e3, e4, e10, trivial⟩
   have e24 : get a6 24 = (.bool ((decide (97 ≤ ((nth (mapTo upU (bs s) k) ((k : Int))).toNat : Int))) && (decide (((nth (mapTo upU (bs s) k) ((k : Int))).toNat : Int) ≤ 122)))) := f6.v 11 rfl
   replace r0 := f6.iy 0 rfl
   clear f6
   show Code.wp _ _ _ a6 w6
   refine wp_cond_split (t := (decide (97 ≤ ((nth (mapTo upU (bs s) k) ((k : Int))).toNat : Int))) && (decide (((nth (mapTo upU (bs s) k) ((k : Int))).toNat : Int) ≤ 122))) e24 (fun hc2 => ?_) (fun hc2 => ?_)
   · have hd2 := hc2; try simp only [Bool.and_eq_true, decide_eq_true_eq] at hd2
     refine region_St (bf := [0, 0, 0, 0, 12, 28, 60, 127, 255]) (sp := [det _ 25 _, det _ 26 _, det _ 27 _, det _ 28 _, det _ 29 _, det _ 30 _, det _ 31 _, det _ 32 _, byt 5 _ 0 3 _]) [iy r0] mixed st6 (by kernel_rfl) ⟨r0, trivial⟩
      ⟨Ob.d fun c => r_move rfl (c.p e3),
      Ob.d fun c => r_move rfl (c.p e4),
      Ob.d fun c => r_move rfl (c.p e3),
      Ob.d fun c => r_move rfl (c.p e4),
      Ob.d fun c => r_indexAddr rfl Try.underlying39 Try.sizeOf5 (c.n 2 rfl) r0.isSl (c.n 3 rfl) (by first | omega | exact (u8w _).1 | exact (u8w _).2) (by first | omega | exact (u8w _).1 | exact (u8w _).2),
      Ob.d fun c => r_load1 rfl Try.isAgg5 (c.n 4 rfl) (((c.iy 0 rfl).1.sl).elem (j := 0) (nth_some (i := (k : Int)) (by first | omega | exact (u8w _).1 | exact (u8w _).2) (by first | omega | exact (u8w _).1 | exact (u8w _).2)) rfl),
      Ob.d fun c => r_subW rfl (c.n 5 rfl) rfl,
      Ob.d fun c => r_indexAddr rfl Try.underlying39 Try.sizeOf5 (c.n 0 rfl) r0.isSl (c.n 1 rfl) (by first | omega | exact (u8w _).1 | exact (u8w _).2) (by first | omega | exact (u8w _).1 | exact (u8w _).2),
      Ob.storeY (i := ((k : Int)).toNat) (n := IntKind.u8.wrap (((nth (mapTo upU (bs s) k) ((k : Int))).toNat : Int) - 32)) rfl rfl rfl rfl Try.sizeOf5 (by first | omega | exact (u8w _).1 | exact (u8w _).2) (by first | omega | exact (u8w _).1 | exact (u8w _).2) (by first | omega | exact (u8w _).1 | exact (u8w _).2) fun c => ⟨c.yp 0 rfl e3, c.ad (c.n 7 rfl) e3 rfl, (c.n 6 rfl)⟩, trivial⟩ ?_
     intro a7 w7 τ7 st7 f7
     obtain ⟨e2, e3, e4, e10, e24, -⟩ := f7.ks [(2, _), (3, _), (4, _), (10, _), (24, _)] ⟨e2, e3, e4, e10, e24, trivial⟩
     replace r0 : bytR 5 ((mapTo upU (bs s) k).set ((k : Int)).toNat (UInt8.ofNat (IntKind.u8.wrap (((nth (mapTo upU (bs s) k) ((k : Int))).toNat : Int) - 32)).toNat)) (τ7 0) b2x3 w7 := f7.ry 8 e3 rfl
     clear f7
     show _
     show Code.wp _ _ _ a7 w7
     refine region_St (bf := [0, 1, 3]) (sp := [det _ 11 _, det _ 12 _, det _ 4 _]) [iy r0] mixed st7 (by kernel_rfl) ⟨r0, trivial⟩
      ⟨Ob.d fun c => r_move rfl (c.p e4),
      Ob.d fun c => r_add rfl (c.n 0 rfl) rfl (by first | omega | exact (u8w _).1 | exact (u8w _).2),
      Ob.d fun c => r_assign rfl (c.n 1 rfl), trivial⟩ ?_
     intro a8 w8 τ8 st8 f8
     obtain ⟨e2, e3, e10, e24, -⟩ := f8.ks [(2, _), (3, _), (10, _), (24, _)] ⟨e2, e3, e10, e24, trivial⟩
     have e4 : get a8 4 = (.int .i64 ((k : Int) + 1)) := f8.v 2 rfl
     replace r0 := f8.iy 0 rfl
     clear f8
     refine ⟨⟨k + 1, τ8, ?_, st8, (e4.trans (int_eq (by omega))), e2, e3, ?_⟩, ?_⟩
     · omega
     · exact r0.cast (by first | exact up_hit (by omega) (by assumption) | exact up_miss (by omega) (by assumption))
     · simp only [m4, e4, intOf]; omega
   have hd2 := hc2; try simp only [Bool.and_eq_false_iff, decide_eq_false_iff_not, Int.not_le] at hd2
   refine wp_skip ?_
   show _
   show Code.wp _ _ _ a6 w6
   refine region_St (bf := [0, 1, 3]) (sp := [det _ 11 _, det _ 12 _, det _ 4 _]) [iy r0] mixed st6 (by kernel_rfl) ⟨r0, trivial⟩
    ⟨Ob.d fun c => r_move rfl (c.p e4),
    Ob.d fun c => r_add rfl (c.n 0 rfl) rfl (by first | omega | exact (u8w _).1 | exact (u8w _).2),
    Ob.d fun c => r_assign rfl (c.n 1 rfl), trivial⟩ ?_
   intro a9 w9 τ9 st9 f9
   obtain ⟨e2, e3, e10, e24, -⟩ := f9.ks [(2, _), (3, _), (10, _), (24, _)] ⟨e2, e3, e10, e24, trivial⟩
   have e4 : get a9 4 = (.int .i64 ((k : Int) + 1)) := f9.v 2 rfl
   replace r0 := f9.iy 0 rfl
   clear f9
   refine ⟨⟨k + 1, τ9, ?_, st9, (e4.trans (int_eq (by omega))), e2, e3, ?_⟩, ?_⟩
   · omega
   · exact r0.cast (by first | exact up_hit (by omega) (by assumption) | exact up_miss (by omega) (by assumption))
   · simp only [m4, e4, intOf]; omega
 try simp only [decide_eq_false_iff_not, Int.not_lt] at hc1
 refine wp_exit ?_
 repeat (with_reducible refine then_exit ?_)
 refine exit_here ?_
 show Code.wp _ _ _ a5 w5
 refine wp_seq ?_
 refine region_St (bf := [0, 1, 3]) (sp := [det _ 33 _, det _ 34 _, det _ 2 _]) [iy r0] mixed st5 (by kernel_rfl) ⟨r0, trivial⟩
  ⟨Ob.d fun c => r_move rfl (c.p e3),
  Ob.d fun c => r_ofBytes rfl Try.underlying39 Try.underlying5 Try.underlying9 (c.n 0 rfl) (c.iy 0 rfl).1.sl,
  Ob.d fun c => r_assign rfl (c.n 1 rfl), trivial⟩ ?_
 intro a10 w10 τ10 st10 f10
 have e2 : get a10 2 = (.string (⟨(mapTo upU (bs s) k).toArray⟩)) := f10.v 2 rfl
 clear f10
 show Code.wp _ _ _ a10 w10
 refine wp_ret ?_
 repeat (first | with_reducible refine then_ret ?_ | with_reducible refine block_ret ?_)
 refine ret1 (fn := Try.f22) rfl st10.defers e2 ?_
 exact ⟨congrArg (fun l_ => Ending.returned (.string ⟨List.toArray l_⟩)) (mapTo_all (by omega)), st10.ext0⟩

set_option maxRecDepth 100000 in
theorem compareS_c (x y : ByteArray) (w : World) : Calls Try.prog 30 #[(.string (x)), (.string (y))] w (fun e w' => e = .returned (.int .i64 (cmpT x y)) ∧ Ext none' w w') := by
 refine enter (n := 20) Try.func30 rfl rfl (Nat.le_of_ble_eq_true rfl) ?_
 intro a0 τ0 ha st0
 have e0 : get a0 0 = (.string (x)) := ha 0 _ rfl
 have e1 : get a0 1 = (.string (y)) := ha 1 _ rfl
 clear ha
 refine wp_seq ?_
 refine region_St (bf := [0]) (sp := [det _ 4 _]) [] mixed st0 (by kernel_rfl) trivial
  ⟨Ob.d fun c => r_assign rfl rfl, trivial⟩ ?_
 intro a1 w1 τ1 st1 f1
 obtain ⟨e0, e1, -⟩ := f1.ks [(0, _), (1, _)] ⟨e0, e1, trivial⟩
 have e4 : get a1 4 = (.int .i64 (0)) := f1.v 0 rfl
 clear f1
 show Code.wp _ _ _ a1 w1
 refine wp_seq ?_
 refine region_St (bf := [0, 1, 3]) (sp := [det _ 7 _, det _ 8 _, det _ 5 _]) [] mixed st1 (by kernel_rfl) trivial
  ⟨Ob.d fun c => r_move rfl (c.p e0),
  Ob.c fun c => ⟨_, _, (e_call1 rfl rfl Try.call39 (c.n 0 rfl)), isNaNS_c x _⟩,
  Ob.d fun c => r_assign rfl (c.n 1 rfl), trivial⟩ ?_
 intro a2 w2 τ2 st2 f2
 obtain ⟨e0, e1, e4, -⟩ := f2.ks [(0, _), (1, _), (4, _)] ⟨e0, e1, e4, trivial⟩
 have e5 : get a2 5 = (.bool (false)) := f2.v 2 rfl
 clear f2
 show Code.wp _ _ _ a2 w2
 refine wp_seq ?_
 refine region_St (bf := [0, 1, 3]) (sp := [det _ 9 _, det _ 10 _, det _ 6 _]) [] mixed st2 (by kernel_rfl) trivial
  ⟨Ob.d fun c => r_move rfl (c.p e1),
  Ob.c fun c => ⟨_, _, (e_call1 rfl rfl Try.call39 (c.n 0 rfl)), isNaNS_c y _⟩,
  Ob.d fun c => r_assign rfl (c.n 1 rfl), trivial⟩ ?_
 intro a3 w3 τ3 st3 f3
 obtain ⟨e0, e1, e4, e5, -⟩ := f3.ks [(0, _), (1, _), (4, _), (5, _)] ⟨e0, e1, e4, e5, trivial⟩
 have e6 : get a3 6 = (.bool (false)) := f3.v 2 rfl
 clear f3
 show Code.wp _ _ _ a3 w3
 refine wp_seq ?_
 refine wp_seq ?_
 refine region_St (bf := [0]) (sp := [det _ 11 _]) [] mixed st3 (by kernel_rfl) trivial
  ⟨Ob.d fun c => r_move rfl (c.p e5), trivial⟩ ?_
 intro a4 w4 τ4 st4 f4
 obtain ⟨e0, e1, e4, e6, -⟩ := f4.ks [(0, _), (1, _), (4, _), (6, _)] ⟨e0, e1, e4, e6, trivial⟩
 have e11 : get a4 11 = (.bool (false)) := f4.v 0 rfl
 clear f4
 show Code.wp _ _ _ a4 w4
 refine wp_cond_false e11 ?_
 refine wp_skip ?_
 show Code.wp _ _ _ a4 w4
 refine wp_seq ?_
 refine wp_seq ?_
 refine region_St (bf := [0]) (sp := [det _ 13 _]) [] mixed st4 (by kernel_rfl) trivial
  ⟨Ob.d fun c => r_move rfl (c.p e6), trivial⟩ ?_
 intro a5 w5 τ5 st5 f5
 obtain ⟨e0, e1, e4, -⟩ := f5.ks [(0, _), (1, _), (4, _)] ⟨e0, e1, e4, trivial⟩
 have e13 : get a5 13 = (.bool (false)) := f5.v 0 rfl
 clear f5
 show Code.wp _ _ _ a5 w5
 refine wp_cond_false e13 ?_
 refine wp_skip ?_
 show Code.wp _ _ _ a5 w5
 refine wp_seq ?_
 refine wp_seq ?_
 refine region_St (bf := [0, 0, 3]) (sp := [det _ 14 _, det _ 15 _, det _ 16 _]) [] mixed st5 (by kernel_rfl) trivial
  ⟨Ob.d fun c => r_move rfl (c.p e0),
  Ob.d fun c => r_move rfl (c.p e1),
  Ob.d fun c => r_slss rfl (c.n 0 rfl) (c.n 1 rfl), trivial⟩ ?_
 intro a6 w6 τ6 st6 f6
 obtain ⟨e0, e1, e4, -⟩ := f6.ks [(0, _), (1, _), (4, _)] ⟨e0, e1, e4, trivial⟩
 have e16 : get a6 16 = (.bool (ltT x y)) := f6.v 2 rfl
 clear f6
 show Code.wp _ _ _ a6 w6
 refine wp_cond_split (t := ltT x y) e16 (fun hc3 => ?_) (fun hc3 => ?_)
 · skip
   refine wp_seq ?_
   refine region_St (bf := [0]) (sp := [det _ 4 _]) [] mixed st6 (by kernel_rfl) trivial
    ⟨Ob.d fun c => r_assign rfl rfl, trivial⟩ ?_
   intro a7 w7 τ7 st7 f7
   obtain ⟨e0, e1, -⟩ := f7.ks [(0, _), (1, _)] ⟨e0, e1, trivial⟩
   have e4 : get a7 4 = (.int .i64 ((-1))) := f7.v 0 rfl
   clear f7
   show Code.wp _ _ _ a7 w7
   refine wp_ret ?_
   repeat (first | with_reducible refine then_ret ?_ | with_reducible refine block_ret ?_)
   refine ret1 (fn := Try.f30) rfl st7.defers e4 ?_
   exact ⟨congrArg _ (int_eq (by first | exact (cmpT_1 (by assumption)).symm | exact (cmpT_2 (by assumption) (by assumption)).symm | exact (cmpT_3 (by assumption) (by assumption)).symm)), st7.ext0⟩
 skip
 refine wp_skip ?_
 show Code.wp _ _ _ a6 w6
 refine wp_seq ?_
 refine wp_seq ?_
 refine region_St (bf := [0, 0, 3]) (sp := [det _ 17 _, det _ 18 _, det _ 19 _]) [] mixed st6 (by kernel_rfl) trivial
  ⟨Ob.d fun c => r_move rfl (c.p e0),
  Ob.d fun c => r_move rfl (c.p e1),
  Ob.d fun c => r_sgtr rfl (c.n 0 rfl) (c.n 1 rfl), trivial⟩ ?_
 intro a8 w8 τ8 st8 f8
 obtain ⟨e4, -⟩ := f8.ks [(4, _)] ⟨e4, trivial⟩
 have e19 : get a8 19 = (.bool (!(leT x y))) := f8.v 2 rfl
 clear f8
 show Code.wp _ _ _ a8 w8
 refine wp_cond_split (t := !(leT x y)) e19 (fun hc4 => ?_) (fun hc4 => ?_)
 · have hd4 := hc4; try simp only [Bool.not_eq_true', Bool.not_eq_false'] at hd4
   refine wp_seq ?_
   refine region_St (bf := [0]) (sp := [det _ 4 _]) [] mixed st8 (by kernel_rfl) trivial
    ⟨Ob.d fun c => r_assign rfl rfl, trivial⟩ ?_
   intro a9 w9 τ9 st9 f9
   have e4 : get a9 4 = (.int .i64 (1)) := f9.v 0 rfl
   clear f9
   show Code.wp _ _ _ a9 w9
   refine wp_ret ?_
   repeat (first | with_reducible refine then_ret ?_ | with_reducible refine block_ret ?_)
   refine ret1 (fn := Try.f30) rfl st9.defers e4 ?_
   exact ⟨congrArg _ (int_eq (by first | exact (cmpT_1 (by assumption)).symm | exact (cmpT_2 (by assumption) (by assumption)).symm | exact (cmpT_3 (by assumption) (by assumption)).symm)), st9.ext0⟩
 have hd4 := hc4; try simp only [Bool.not_eq_true', Bool.not_eq_false'] at hd4
 refine wp_skip ?_
 show Code.wp _ _ _ a8 w8
 refine wp_seq ?_
 refine region_St (bf := [0]) (sp := [det _ 4 _]) [] mixed st8 (by kernel_rfl) trivial
  ⟨Ob.d fun c => r_assign rfl rfl, trivial⟩ ?_
 intro a10 w10 τ10 st10 f10
 have e4 : get a10 4 = (.int .i64 (0)) := f10.v 0 rfl
 clear f10
 show Code.wp _ _ _ a10 w10
 refine wp_ret ?_
 repeat (first | with_reducible refine then_ret ?_ | with_reducible refine block_ret ?_)
 refine ret1 (fn := Try.f30) rfl st10.defers e4 ?_
 exact ⟨congrArg _ (int_eq (by first | exact (cmpT_1 (by assumption)).symm | exact (cmpT_2 (by assumption) (by assumption)).symm | exact (cmpT_3 (by assumption) (by assumption)).symm)), st10.ext0⟩

set_option maxRecDepth 100000 in
theorem cmpR_c (p q : ByteArray × ByteArray) (w : World) : Calls Try.prog 28 #[(.agg #[(.string (p.1)), (.string (p.2))]), (.agg #[(.string (q.1)), (.string (q.2))])] w (fun e w' => e = .returned (.int .i64 (cmpR p q)) ∧ Ext none' w w') := by
 refine enter (n := 17) Try.func28 rfl rfl (Nat.le_of_ble_eq_true rfl) ?_
 intro a0 τ0 ha st0
 have e0 : get a0 0 = (.agg #[(.string (p.1)), (.string (p.2))]) := ha 0 _ rfl
 have e1 : get a0 1 = (.agg #[(.string (q.1)), (.string (q.2))]) := ha 1 _ rfl
 clear ha
 refine wp_seq ?_
 refine region_St (bf := [0, 0, 0]) (sp := [box _ _ 0 2 [(.string (p.1)), (.string (p.2))], box _ _ 1 3 [(.string (q.1)), (.string (q.2))], det _ 4 _]) [] mixed st0 (by kernel_rfl) trivial
  ⟨Ob.box (v := (.agg #[(.string (p.1)), (.string (p.2))])) rfl rfl rfl rfl rfl (fun _ _ _ _ c => (c.p e0)),
  Ob.box (v := (.agg #[(.string (q.1)), (.string (q.2))])) rfl rfl rfl rfl rfl (fun _ _ _ _ c => (c.p e1)),
  Ob.d fun c => r_assign rfl rfl, trivial⟩ ?_
 intro a1 w1 τ1 st1 f1
 obtain ⟨b1x2, e2⟩ : ∃ b, get a1 2 = b := ⟨_, rfl⟩
 obtain ⟨b1x3, e3⟩ : ∃ b, get a1 3 = b := ⟨_, rfl⟩
 have e4 : get a1 4 = (.int .i64 (0)) := f1.v 2 rfl
 have r0 : boxR 36 [(.string (p.1)), (.string (p.2))] (τ1 0) b1x2 w1 := f1.rb 0 e2 rfl
 have r1 : boxR 36 [(.string (q.1)), (.string (q.2))] (τ1 1) b1x3 w1 := f1.rb 1 e3 rfl
 clear f1
 show Code.wp _ _ _ a1 w1
 refine wp_seq ?_
 refine region_St (bf := [0, 1, 0, 4, 15, 0, 32, 0, 128, 511, 1023, 2047, 4095]) (sp := [det _ 5 _, det _ 6 _, det _ 7 _, det _ 8 _, det _ 9 _, det _ 10 _, det _ 11 _, det _ 12 _, det _ 13 _, det _ 14 _, own IntE 3 _ 2 15 ([cmpT p.1 q.1, cmpT p.2 q.2]), det _ 16 _, det _ 4 _]) [ib r0, ib r1] mixed st1 (by kernel_rfl) ⟨r0, r1, trivial⟩
  ⟨Ob.d fun c => r_fieldAddr rfl Try.underlying36 rfl rfl Try.sizeOf9 ((c.p e2).trans r0.ptr),
  Ob.d fun c => r_load1 rfl Try.isAgg9 (c.n 0 rfl) ((c.ib 0 rfl).cell (j := 0) rfl),
  Ob.d fun c => r_fieldAddr rfl Try.underlying36 rfl rfl Try.sizeOf9 ((c.p e3).trans r1.ptr),
  Ob.d fun c => r_load1 rfl Try.isAgg9 (c.n 2 rfl) ((c.ib 1 rfl).cell (j := 0) rfl),
  Ob.c fun c => ⟨_, _, (e_call2 rfl rfl Try.call30 (c.n 1 rfl) (c.n 3 rfl)), compareS_c p.1 q.1 _⟩,
  Ob.d fun c => r_fieldAddr rfl Try.underlying36 rfl rfl Try.sizeOf9 ((c.p e2).trans r0.ptr),
  Ob.d fun c => r_load1 rfl Try.isAgg9 (c.n 5 rfl) ((c.ib 0 rfl).cell (j := 1) rfl),
  Ob.d fun c => r_fieldAddr rfl Try.underlying36 rfl rfl Try.sizeOf9 ((c.p e3).trans r1.ptr),
  Ob.d fun c => r_load1 rfl Try.isAgg9 (c.n 7 rfl) ((c.ib 1 rfl).cell (j := 1) rfl),
  Ob.c fun c => ⟨_, _, (e_call2 rfl rfl Try.call30 (c.n 6 rfl) (c.n 8 rfl)), compareS_c p.2 q.2 _⟩,
  Ob.buildSlice (cells := #[(.int .i64 (cmpT p.1 q.1)), (.int .i64 (cmpT p.2 q.2))]) rfl rfl rfl rfl Try.underlying53 Try.sizeOf3 Try.zeroValue3 rfl (by decide) (by decide) (fun _ _ _ _ c => fill2 (c.n 4 rfl) (c.n 9 rfl) (by kernel_rfl)) rfl,
  Ob.c fun c => ⟨_, _, (e_call1 rfl rfl Try.call29 (eval_tmp _ 15)), or_c _ _ _ (c.ro 10 rfl).1.sl⟩,
  Ob.d fun c => r_assign rfl (c.n 11 rfl), trivial⟩ ?_
 intro a2 w2 τ2 st2 f2
 obtain ⟨b2x15, e15⟩ : ∃ b, get a2 15 = b := ⟨_, rfl⟩
 have e4 : get a2 4 = (.int .i64 (orF ([cmpT p.1 q.1, cmpT p.2 q.2]))) := f2.v 12 rfl
 clear f2
 show Code.wp _ _ _ a2 w2
 refine wp_ret ?_
 repeat (first | with_reducible refine then_ret ?_ | with_reducible refine block_ret ?_)
 refine ret1 (fn := Try.f28) rfl st2.defers e4 ?_
 exact ⟨rfl, st2.ext0⟩

set_option maxRecDepth 100000 in
theorem rowSwap_n (v : Value) (xs : List (ByteArray × ByteArray)) (a b n : Nat) (w : World) (ho : OwnT RowE 36 w v xs) (h1 : a + n ≤ xs.length) (h2 : b + n ≤ xs.length) : Calls Try.prog 45 #[v, (.int .i64 ((a : Int))), (.int .i64 ((b : Int))), (.int .i64 ((n : Int))), (.func (.func 28) #[] #[])] w (fun e w' => e = .returned (.tuple #[]) ∧ OwnT RowE 36 w' v (swR xs a b n) ∧ Ext (fun k => v.ownBlock = some k) w w') := by
 refine enterIn (fun g => v.ownBlock = some g) (fun g hg => ho.lt g hg) (n := 38) Try.func45 rfl rfl (Nat.le_of_ble_eq_true rfl) ?_
 intro a0 τ0 ha hτ st0
 have e0 : get a0 0 = v := ha 0 _ rfl
 have e1 : get a0 1 = (.int .i64 ((a : Int))) := ha 1 _ rfl
 have e2 : get a0 2 = (.int .i64 ((b : Int))) := ha 2 _ rfl
 have e3 : get a0 3 = (.int .i64 ((n : Int))) := ha 3 _ rfl
 have e4 : get a0 4 = (.func (.func 28) #[] #[]) := ha 4 _ rfl
 clear ha
 have r0 : ownR RowE 36 xs (τ0 0) v w := ⟨ho, fun g hg => by rw [hτ]; exact hg⟩
 have hle := r0.le
 refine wp_seq ?_
 refine region_St (bf := [0]) (sp := [det _ 10 _]) [io r0] mixed st0 (by kernel_rfl) ⟨r0, trivial⟩
  ⟨Ob.d fun c => r_assign rfl rfl, trivial⟩ ?_
 intro a1 w1 τ1 st1 f1
 obtain ⟨e0, e1, e2, e3, -⟩ := f1.ks [(0, _), (1, _), (2, _), (3, _)] ⟨e0, e1, e2, e3, trivial⟩
 have e10 : get a1 10 = (.int .i64 (0)) := f1.v 0 rfl
 replace r0 := f1.io 0 rfl
 clear f1
 show Code.wp _ _ _ a1 w1
 refine wp_block ?_
 refine wp_loop (fun a_ w_ => ∃ (i : Nat) (τ : Nat → Foot), (i ≤ n) ∧
      St (fun k => v.ownBlock = some k ∨ w.heap.size ≤ k) w 38 a_ w_ τ ∧
      get a_ 10 = (.int .i64 ((i : Int))) ∧
      get a_ 0 = v ∧
      get a_ 1 = (.int .i64 ((a : Int))) ∧
      get a_ 2 = (.int .i64 ((b : Int))) ∧
      get a_ 3 = (.int .i64 ((n : Int))) ∧
      ownR RowE 36 (swR xs a b i) (τ 0) v w_) (fun a_ _ => n - (intOf (get a_ 10)).toNat) ?_ ?_
 · refine ⟨0, τ1, ?_, st1, (e10.trans (int_eq (by omega))), e0, e1, e2, e3, ?_⟩
   · omega
   · exact r0.cast (by rfl)
 intro a2 w2 hI
 obtain ⟨i, τ2, q0, st2, e10, e0, e1, e2, e3, r0⟩ := hI
 have hl := swR_len xs a b i
 have m10 := e10
 refine wp_seq ?_
 refine wp_seq ?_
 refine region_St (bf := [0, 0, 3]) (sp := [det _ 11 _, det _ 12 _, det _ 13 _]) [io r0] mixed st2 (by kernel_rfl) ⟨r0, trivial⟩
  ⟨Ob.d fun c => r_move rfl (c.p e10),
  Ob.d fun c => r_move rfl (c.p e3),
  Ob.d fun c => r_lss rfl (c.n 0 rfl) (c.n 1 rfl), trivial⟩ ?_
 intro a3 w3 τ3 st3 f3
 obtain ⟨e0, e1, e2, e3, e10, -⟩ := f3.ks [(0, _), (1, _), (2, _), (3, _), (10, _)] ⟨e0, e1, e2, e3, e10, trivial⟩
 have e13 : get a3 13 = (.bool (decide ((i : Int) < (n : Int)))) := f3.v 2 rfl
 replace r0 := f3.io 0 rfl
 clear f3
 show Code.wp _ _ _ a3 w3
 refine wp_cond_split (t := decide ((i : Int) < (n : Int))) e13 (fun hc1 => ?_) (fun hc1 => ?_)
 · try simp only [decide_eq_true_eq] at hc1
   refine wp_skip ?_
   show Code.wp _ _ _ a3 w3
   refine wp_seq ?_
   refine wp_block ?_
   refine region_St (bf := [0, 0, 0, 6, 0, 0, 0, 96, 0, 0, 0, 1536, 3840, 7936, 0, 0, 0, 98304, 245760, 507904, 1048335, 2096911, 4194303, 8388607]) (sp := [det _ 16 _, det _ 17 _, det _ 18 _, det _ 19 _, det _ 20 _, det _ 21 _, det _ 22 _, det _ 23 _, det _ 24 _, det _ 25 _, det _ 26 _, det _ 27 _, det _ 28 _, det _ 29 _, det _ 30 _, det _ 31 _, det _ 32 _, det _ 33 _, det _ 34 _, det _ 35 _, det _ 36 _, own _ _ _ 0 0 _, det _ 37 _, own _ _ _ 0 0 _]) [io r0] mixed st3 (by kernel_rfl) ⟨r0, trivial⟩
    ⟨Ob.d fun c => r_move rfl (c.p e0),
    Ob.d fun c => r_move rfl (c.p e1),
    Ob.d fun c => r_move rfl (c.p e10),
    Ob.d fun c => r_add rfl (c.n 1 rfl) (c.n 2 rfl) (by omega),
    Ob.d fun c => r_move rfl (c.p e0),
    Ob.d fun c => r_move rfl (c.p e2),
    Ob.d fun c => r_move rfl (c.p e10),
    Ob.d fun c => r_add rfl (c.n 5 rfl) (c.n 6 rfl) (by omega),
    Ob.d fun c => r_move rfl (c.p e0),
    Ob.d fun c => r_move rfl (c.p e2),
    Ob.d fun c => r_move rfl (c.p e10),
    Ob.d fun c => r_add rfl (c.n 9 rfl) (c.n 10 rfl) (by omega),
    Ob.d fun c => r_indexAddr rfl Try.underlying22 Try.sizeOf36 (c.n 8 rfl) r0.isSl (c.n 11 rfl) (by omega) (by omega),
    Ob.d fun c => r_loadN (vs := [(.string ((nth (swR xs a b i) ((b : Int) + (i : Int))).1)), (.string ((nth (swR xs a b i) ((b : Int) + (i : Int))).2))]) rfl Try.isAgg36 Try.sizeOf36 (c.n 12 rfl) rfl (fun _ _ hj => ((c.io 0 rfl).1.sl).elem (nth_some (i := (b : Int) + (i : Int)) (by omega) (by omega)) hj),
    Ob.d fun c => r_move rfl (c.p e0),
    Ob.d fun c => r_move rfl (c.p e1),
    Ob.d fun c => r_move rfl (c.p e10),
    Ob.d fun c => r_add rfl (c.n 15 rfl) (c.n 16 rfl) (by omega),
    Ob.d fun c => r_indexAddr rfl Try.underlying22 Try.sizeOf36 (c.n 14 rfl) r0.isSl (c.n 17 rfl) (by omega) (by omega),
    Ob.d fun c => r_loadN (vs := [(.string ((nth (swR xs a b i) ((a : Int) + (i : Int))).1)), (.string ((nth (swR xs a b i) ((a : Int) + (i : Int))).2))]) rfl Try.isAgg36 Try.sizeOf36 (c.n 18 rfl) rfl (fun _ _ hj => ((c.io 0 rfl).1.sl).elem (nth_some (i := (a : Int) + (i : Int)) (by omega) (by omega)) hj),
    Ob.d fun c => r_indexAddr rfl Try.underlying22 Try.sizeOf36 (c.n 0 rfl) r0.isSl (c.n 3 rfl) (by omega) (by omega),
    Ob.storeElem (E := RowE) (i := ((a : Int) + (i : Int)).toNat) (off := 0) (u := (.agg #[(.string ((nth (swR xs a b i) ((b : Int) + (i : Int))).1)), (.string ((nth (swR xs a b i) ((b : Int) + (i : Int))).2))])) (x := nth (swR xs a b i) ((a : Int) + (i : Int))) (x' := (nth (swR xs a b i) ((b : Int) + (i : Int)))) rfl rfl rfl rfl Try.sizeOf36 (nth_some (by omega) (by (try simp only [List.length_set]); omega)) (Nat.le_of_ble_eq_true rfl) (by simp [Value.cells, Value.oneCell']) rfl (fun _ a_ _ _ c => ⟨c.ip 0 rfl e0, c.ad (c.n 20 rfl) e0 rfl, (c.n 13 rfl)⟩),
    Ob.d fun c => r_indexAddr rfl Try.underlying22 Try.sizeOf36 (c.n 4 rfl) r0.isSl (c.n 7 rfl) (by omega) (by omega),
    Ob.storeElem (E := RowE) (i := ((b : Int) + (i : Int)).toNat) (off := 0) (u := (.agg #[(.string ((nth (swR xs a b i) ((a : Int) + (i : Int))).1)), (.string ((nth (swR xs a b i) ((a : Int) + (i : Int))).2))])) (x := nth ((swR xs a b i).set ((a : Int) + (i : Int)).toNat (nth (swR xs a b i) ((b : Int) + (i : Int)))) ((b : Int) + (i : Int))) (x' := (nth (swR xs a b i) ((a : Int) + (i : Int)))) rfl rfl rfl rfl Try.sizeOf36 (nth_some (by omega) (by (try simp only [List.length_set]); omega)) (Nat.le_of_ble_eq_true rfl) (by simp [Value.cells, Value.oneCell']) rfl (fun _ a_ _ _ c => ⟨c.ro 21 rfl, c.ad (c.n 22 rfl) e0 rfl, (c.n 19 rfl)⟩), trivial⟩ ?_
   intro a4 w4 τ4 st4 f4
   obtain ⟨e0, e1, e2, e3, e10, e13, -⟩ := f4.ks [(0, _), (1, _), (2, _), (3, _), (10, _), (13, _)] ⟨e0, e1, e2, e3, e10, e13, trivial⟩
   replace r0 : ownR RowE 36 (((swR xs a b i).set ((a : Int) + (i : Int)).toNat (nth (swR xs a b i) ((b : Int) + (i : Int)))).set ((b : Int) + (i : Int)).toNat (nth (swR xs a b i) ((a : Int) + (i : Int)))) (τ4 0) v w4 := f4.ro 23 e0 rfl
   clear f4
   show _
   show Code.wp _ _ _ a4 w4
   refine region_St (bf := [0, 1, 3]) (sp := [det _ 14 _, det _ 15 _, det _ 10 _]) [io r0] mixed st4 (by kernel_rfl) ⟨r0, trivial⟩
    ⟨Ob.d fun c => r_move rfl (c.p e10),
    Ob.d fun c => r_add rfl (c.n 0 rfl) rfl (by omega),
    Ob.d fun c => r_assign rfl (c.n 1 rfl), trivial⟩ ?_
   intro a5 w5 τ5 st5 f5
   obtain ⟨e0, e1, e2, e3, e13, -⟩ := f5.ks [(0, _), (1, _), (2, _), (3, _), (13, _)] ⟨e0, e1, e2, e3, e13, trivial⟩
   have e10 : get a5 10 = (.int .i64 ((i : Int) + 1)) := f5.v 2 rfl
   replace r0 := f5.io 0 rfl
   clear f5
   refine ⟨⟨i + 1, τ5, ?_, st5, (e10.trans (int_eq (by omega))), e0, e1, e2, e3, ?_⟩, ?_⟩
   · omega
   · exact r0.cast (by rfl)
   · simp only [m10, e10, intOf]; omega
 try simp only [decide_eq_false_iff_not, Int.not_lt] at hc1
 refine wp_exit ?_
 repeat (with_reducible refine then_exit ?_)
 refine exit_here ?_
 refine end0 (fn := Try.f45) rfl st3.defers ?_
 obtain rfl : i = n := by omega
 exact ⟨rfl, r0.1, st3.extIn⟩

theorem rowSwap_c (v : Value) (xs : List (ByteArray × ByteArray)) (a b n : Int) (w : World) (ho : OwnT RowE 36 w v xs) (ha : 0 ≤ a) (hb : 0 ≤ b) (hn : 0 ≤ n) (h1 : a + n ≤ xs.length) (h2 : b + n ≤ xs.length) : Calls Try.prog 45 #[v, .int .i64 a, .int .i64 b, .int .i64 n, (.func (.func 28) #[] #[])] w (fun e w' => e = .returned (.tuple #[]) ∧ OwnT RowE 36 w' v (swR xs a.toNat b.toNat n.toNat) ∧ Ext (fun k => v.ownBlock = some k) w w') := by
  obtain ⟨a, rfl⟩ := Int.eq_ofNat_of_zero_le ha
  obtain ⟨b, rfl⟩ := Int.eq_ofNat_of_zero_le hb
  obtain ⟨n, rfl⟩ := Int.eq_ofNat_of_zero_le hn
  exact rowSwap_n v xs a b n w ho (by omega) (by omega)

set_option maxRecDepth 100000 in
theorem rowIns_n (v : Value) (xs : List (ByteArray × ByteArray)) (a b : Nat) (w : World) (ho : OwnT RowE 36 w v xs) (h1 : a ≤ b) (h2 : b ≤ xs.length) (hbig : xs.length ≤ 1000000000000) : Calls Try.prog 42 #[v, (.int .i64 ((a : Int))), (.int .i64 ((b : Int))), (.func (.func 28) #[] #[])] w (fun e w' => e = .returned (.tuple #[]) ∧ OwnT RowE 36 w' v (insF ltR xs a b) ∧ Ext (fun k => v.ownBlock = some k) w w') := by
 refine enterIn (fun g => v.ownBlock = some g) (fun g hg => ho.lt g hg) (n := 53) Try.func42 rfl rfl (Nat.le_of_ble_eq_true rfl) ?_
 intro a0 τ0 ha hτ st0
 have e0 : get a0 0 = v := ha 0 _ rfl
 have e1 : get a0 1 = (.int .i64 ((a : Int))) := ha 1 _ rfl
 have e2 : get a0 2 = (.int .i64 ((b : Int))) := ha 2 _ rfl
 have e3 : get a0 3 = (.func (.func 28) #[] #[]) := ha 3 _ rfl
 clear ha
 have r0 : ownR RowE 36 xs (τ0 0) v w := ⟨ho, fun g hg => by rw [hτ]; exact hg⟩
 have hle := r0.le
 refine wp_seq ?_
 refine region_St (bf := [0, 1, 3]) (sp := [det _ 10 _, det _ 11 _, det _ 8 _]) [io r0] mixed st0 (by kernel_rfl) ⟨r0, trivial⟩
  ⟨Ob.d fun c => r_move rfl (c.p e1),
  Ob.d fun c => r_add rfl (c.n 0 rfl) rfl (by omega),
  Ob.d fun c => r_assign rfl (c.n 1 rfl), trivial⟩ ?_
 intro a1 w1 τ1 st1 f1
 obtain ⟨e0, e1, e2, e3, -⟩ := f1.ks [(0, _), (1, _), (2, _), (3, _)] ⟨e0, e1, e2, e3, trivial⟩
 have e8 : get a1 8 = (.int .i64 ((a : Int) + 1)) := f1.v 2 rfl
 replace r0 := f1.io 0 rfl
 clear f1
 show Code.wp _ _ _ a1 w1
 refine wp_block ?_
 refine wp_loop (fun a_ w_ => ∃ (n : Nat) (τ : Nat → Foot), (n ≤ b - (a + 1)) ∧
      St (fun k => v.ownBlock = some k ∨ w.heap.size ≤ k) w 53 a_ w_ τ ∧
      get a_ 8 = (.int .i64 ((a : Int) + 1 + (n : Int))) ∧
      get a_ 0 = v ∧
      get a_ 1 = (.int .i64 ((a : Int))) ∧
      get a_ 2 = (.int .i64 ((b : Int))) ∧
      get a_ 3 = (.func (.func 28) #[] #[]) ∧
      ownR RowE 36 (insSeq ltR a n xs) (τ 0) v w_) (fun a_ _ => b - (intOf (get a_ 8)).toNat) ?_ ?_
 · refine ⟨0, τ1, ?_, st1, (e8.trans (int_eq (by omega))), e0, e1, e2, e3, ?_⟩
   · omega
   · exact r0.cast (by rfl)
 intro a2 w2 hI
 obtain ⟨n, τ2, q0, st2, e8, e0, e1, e2, e3, r0⟩ := hI
 have m8 := e8
 refine wp_seq ?_
 refine wp_seq ?_
 refine region_St (bf := [0, 0, 3]) (sp := [det _ 12 _, det _ 13 _, det _ 14 _]) [io r0] mixed st2 (by kernel_rfl) ⟨r0, trivial⟩
  ⟨Ob.d fun c => r_move rfl (c.p e8),
  Ob.d fun c => r_move rfl (c.p e2),
  Ob.d fun c => r_lss rfl (c.n 0 rfl) (c.n 1 rfl), trivial⟩ ?_
 intro a3 w3 τ3 st3 f3
 obtain ⟨e0, e1, e2, e3, e8, -⟩ := f3.ks [(0, _), (1, _), (2, _), (3, _), (8, _)] ⟨e0, e1, e2, e3, e8, trivial⟩
 have e14 : get a3 14 = (.bool (decide ((a : Int) + 1 + (n : Int) < (b : Int)))) := f3.v 2 rfl
 replace r0 := f3.io 0 rfl
 clear f3
 show Code.wp _ _ _ a3 w3
 refine wp_cond_split (t := decide ((a : Int) + 1 + (n : Int) < (b : Int))) e14 (fun hc1 => ?_) (fun hc1 => ?_)
 · try simp only [decide_eq_true_eq] at hc1
   refine wp_skip ?_
   show Code.wp _ _ _ a3 w3
   refine wp_seq ?_
   refine wp_block ?_
   refine wp_seq ?_
   refine region_St (bf := [0, 1]) (sp := [det _ 17 _, det _ 9 _]) [io r0] mixed st3 (by kernel_rfl) ⟨r0, trivial⟩
    ⟨Ob.d fun c => r_move rfl (c.p e8),
    Ob.d fun c => r_assign rfl (c.n 0 rfl), trivial⟩ ?_
   intro a4 w4 τ4 st4 f4
   obtain ⟨e0, e1, e2, e3, e8, e14, -⟩ := f4.ks [(0, _), (1, _), (2, _), (3, _), (8, _), (14, _)] ⟨e0, e1, e2, e3, e8, e14, trivial⟩
   have e9 : get a4 9 = (.int .i64 ((a : Int) + 1 + (n : Int))) := f4.v 1 rfl
   replace r0 := f4.io 0 rfl
   clear f4
   show Code.wp _ _ _ a4 w4
   refine wp_block ?_
   refine wp_loop (fun a_ w_ => ∃ (j : Nat) (ys : List (ByteArray × ByteArray)) (τ : Nat → Foot), (a ≤ j) ∧
          (j ≤ a + 1 + n) ∧
          (ys.length = xs.length) ∧
          (bub ltR a j ys = insSeq ltR a (n + 1) xs) ∧
          St (fun k => v.ownBlock = some k ∨ w.heap.size ≤ k) w 53 a_ w_ τ ∧
          get a_ 9 = (.int .i64 ((j : Int))) ∧
          get a_ 0 = v ∧
          get a_ 1 = (.int .i64 ((a : Int))) ∧
          get a_ 2 = (.int .i64 ((b : Int))) ∧
          get a_ 3 = (.func (.func 28) #[] #[]) ∧
          get a_ 8 = (.int .i64 ((a : Int) + 1 + (n : Int))) ∧
          get a_ 14 = (.bool (decide ((a : Int) + 1 + (n : Int) < (b : Int)))) ∧
          ownR RowE 36 (ys) (τ 0) v w_) (fun a_ _ => (intOf (get a_ 9)).toNat) ?_ ?_
   · refine ⟨a + 1 + n, insSeq ltR a n xs, τ4, ?_, ?_, ?_, ?_, st4, (e9.trans (int_eq (by omega))), e0, e1, e2, e3, e8, e14, ?_⟩
     · omega
     · omega
     · exact insSeq_len a n xs
     · rfl
     · exact r0.cast (by rfl)
   intro a5 w5 hI
   obtain ⟨j, ys, τ5, q0, q1, q2, q3, st5, e9, e0, e1, e2, e3, e8, e14, r0⟩ := hI
   have m9 := e9
   refine wp_seq ?_
   refine wp_seq ?_
   refine region_St (bf := [0, 0, 3, 7, 15, 15, 15, 111, 239, 15, 15, 1039, 3599, 7695, 16383, 32767, 65535]) (sp := [det _ 18 _, det _ 19 _, det _ 20 _, det _ 21 _, gdet _ 22 _ _, gdet _ 23 _ _, gdet _ 24 _ _, gdet _ 25 _ _, gdet _ 26 _ _, gdet _ 27 _ _, gdet _ 28 _ _, gdet _ 29 _ _, gdet _ 30 _ _, gdet _ 31 _ _, gdet _ 32 _ _, gdet _ 33 _ _, det _ 34 _]) [io r0] mixed st5 (by kernel_rfl) ⟨r0, trivial⟩
    ⟨Ob.d fun c => r_move rfl (c.p e9),
    Ob.d fun c => r_move rfl (c.p e1),
    Ob.d fun c => r_gtr rfl (c.n 0 rfl) (c.n 1 rfl),
    Ob.d fun c => r_move rfl (c.n 2 rfl),
    Ob.g 3 true rfl fun c hpc => r_move rfl (c.p e3),
    Ob.g 3 true rfl fun c hpc => r_move rfl (c.p e0),
    Ob.g 3 true rfl fun c hpc => r_move rfl (c.p e9),
    Ob.g 3 true rfl fun c hpc => r_indexAddr rfl Try.underlying22 Try.sizeOf36 (c.m 5 rfl hpc) r0.isSl (c.m 6 rfl hpc) (by have hq0 := bt hpc; omega) (by have hq0 := bt hpc; omega),
    Ob.g 3 true rfl fun c hpc => r_loadN (vs := [(.string ((nth ys ((j : Int))).1)), (.string ((nth ys ((j : Int))).2))]) rfl Try.isAgg36 Try.sizeOf36 (c.m 7 rfl hpc) rfl (fun _ _ hj => ((c.io 0 rfl).1.sl).elem (nth_some (i := (j : Int)) (by have hq0 := bt hpc; omega) (by have hq0 := bt hpc; omega)) hj),
    Ob.g 3 true rfl fun c hpc => r_move rfl (c.p e0),
    Ob.g 3 true rfl fun c hpc => r_move rfl (c.p e9),
    Ob.g 3 true rfl fun c hpc => r_sub rfl (c.m 10 rfl hpc) rfl (by have hq0 := bt hpc; omega),
    Ob.g 3 true rfl fun c hpc => r_indexAddr rfl Try.underlying22 Try.sizeOf36 (c.m 9 rfl hpc) r0.isSl (c.m 11 rfl hpc) (by have hq0 := bt hpc; omega) (by have hq0 := bt hpc; omega),
    Ob.g 3 true rfl fun c hpc => r_loadN (vs := [(.string ((nth ys ((j : Int) - 1)).1)), (.string ((nth ys ((j : Int) - 1)).2))]) rfl Try.isAgg36 Try.sizeOf36 (c.m 12 rfl hpc) rfl (fun _ _ hj => ((c.io 0 rfl).1.sl).elem (nth_some (i := (j : Int) - 1) (by have hq0 := bt hpc; omega) (by have hq0 := bt hpc; omega)) hj),
    Ob.gc 3 true rfl fun c hpc => ⟨_, _, (e_call2 rfl (c.m 4 rfl hpc) Try.call28 (c.m 8 rfl hpc) (c.m 13 rfl hpc)), cmpR_c (nth ys ((j : Int))) (nth ys ((j : Int) - 1)) _⟩,
    Ob.g 3 true rfl fun c hpc => r_lss rfl (c.m 14 rfl hpc) rfl,
    Ob.d fun c => r_and rfl (c.n 3 rfl) (fun h => c.m 15 rfl h), trivial⟩ ?_
   intro a6 w6 τ6 st6 f6
   obtain ⟨e0, e1, e2, e3, e8, e9, e14, -⟩ := f6.ks [(0, _), (1, _), (2, _), (3, _), (8, _), (9, _), (14, _)] ⟨e0, e1, e2, e3, e8, e9, e14, trivial⟩
   have e34 : get a6 34 = (.bool ((decide ((a : Int) < (j : Int))) && (decide (cmpR (nth ys ((j : Int))) (nth ys ((j : Int) - 1)) < 0)))) := f6.v 16 rfl
   replace r0 := f6.io 0 rfl
   clear f6
   show Code.wp _ _ _ a6 w6
   refine wp_cond_split (t := (decide ((a : Int) < (j : Int))) && (decide (cmpR (nth ys ((j : Int))) (nth ys ((j : Int) - 1)) < 0))) e34 (fun hc2 => ?_) (fun hc2 => ?_)
   · try simp only [Bool.and_eq_true, decide_eq_true_eq] at hc2
     refine wp_skip ?_
     show Code.wp _ _ _ a6 w6
     refine wp_seq ?_
     refine wp_block ?_
     refine region_St (bf := [0, 0, 0, 0, 8, 0, 0, 64, 224, 480, 0, 0, 3072, 7168, 16355, 32739, 65535, 131071]) (sp := [det _ 37 _, det _ 38 _, det _ 39 _, det _ 40 _, det _ 41 _, det _ 42 _, det _ 43 _, det _ 44 _, det _ 45 _, det _ 46 _, det _ 47 _, det _ 48 _, det _ 49 _, det _ 50 _, det _ 51 _, own _ _ _ 0 0 _, det _ 52 _, own _ _ _ 0 0 _]) [io r0] mixed st6 (by kernel_rfl) ⟨r0, trivial⟩
      ⟨Ob.d fun c => r_move rfl (c.p e0),
      Ob.d fun c => r_move rfl (c.p e9),
      Ob.d fun c => r_move rfl (c.p e0),
      Ob.d fun c => r_move rfl (c.p e9),
      Ob.d fun c => r_sub rfl (c.n 3 rfl) rfl (by omega),
      Ob.d fun c => r_move rfl (c.p e0),
      Ob.d fun c => r_move rfl (c.p e9),
      Ob.d fun c => r_sub rfl (c.n 6 rfl) rfl (by omega),
      Ob.d fun c => r_indexAddr rfl Try.underlying22 Try.sizeOf36 (c.n 5 rfl) r0.isSl (c.n 7 rfl) (by omega) (by omega),
      Ob.d fun c => r_loadN (vs := [(.string ((nth ys ((j : Int) - 1)).1)), (.string ((nth ys ((j : Int) - 1)).2))]) rfl Try.isAgg36 Try.sizeOf36 (c.n 8 rfl) rfl (fun _ _ hj => ((c.io 0 rfl).1.sl).elem (nth_some (i := (j : Int) - 1) (by omega) (by omega)) hj),
      Ob.d fun c => r_move rfl (c.p e0),
      Ob.d fun c => r_move rfl (c.p e9),
      Ob.d fun c => r_indexAddr rfl Try.underlying22 Try.sizeOf36 (c.n 10 rfl) r0.isSl (c.n 11 rfl) (by omega) (by omega),
      Ob.d fun c => r_loadN (vs := [(.string ((nth ys ((j : Int))).1)), (.string ((nth ys ((j : Int))).2))]) rfl Try.isAgg36 Try.sizeOf36 (c.n 12 rfl) rfl (fun _ _ hj => ((c.io 0 rfl).1.sl).elem (nth_some (i := (j : Int)) (by omega) (by omega)) hj),
      Ob.d fun c => r_indexAddr rfl Try.underlying22 Try.sizeOf36 (c.n 0 rfl) r0.isSl (c.n 1 rfl) (by omega) (by omega),
      Ob.storeElem (E := RowE) (i := ((j : Int)).toNat) (off := 0) (u := (.agg #[(.string ((nth ys ((j : Int) - 1)).1)), (.string ((nth ys ((j : Int) - 1)).2))])) (x := nth ys ((j : Int))) (x' := (nth ys ((j : Int) - 1))) rfl rfl rfl rfl Try.sizeOf36 (nth_some (by omega) (by (try simp only [List.length_set]); omega)) (Nat.le_of_ble_eq_true rfl) (by simp [Value.cells, Value.oneCell']) rfl (fun _ a_ _ _ c => ⟨c.ip 0 rfl e0, c.ad (c.n 14 rfl) e0 rfl, (c.n 9 rfl)⟩),
      Ob.d fun c => r_indexAddr rfl Try.underlying22 Try.sizeOf36 (c.n 2 rfl) r0.isSl (c.n 4 rfl) (by omega) (by omega),
      Ob.storeElem (E := RowE) (i := ((j : Int) - 1).toNat) (off := 0) (u := (.agg #[(.string ((nth ys ((j : Int))).1)), (.string ((nth ys ((j : Int))).2))])) (x := nth (ys.set ((j : Int)).toNat (nth ys ((j : Int) - 1))) ((j : Int) - 1)) (x' := (nth ys ((j : Int)))) rfl rfl rfl rfl Try.sizeOf36 (nth_some (by omega) (by (try simp only [List.length_set]); omega)) (Nat.le_of_ble_eq_true rfl) (by simp [Value.cells, Value.oneCell']) rfl (fun _ a_ _ _ c => ⟨c.ro 15 rfl, c.ad (c.n 16 rfl) e0 rfl, (c.n 13 rfl)⟩), trivial⟩ ?_
     intro a7 w7 τ7 st7 f7
     obtain ⟨e0, e1, e2, e3, e8, e9, e14, e34, -⟩ := f7.ks [(0, _), (1, _), (2, _), (3, _), (8, _), (9, _), (14, _), (34, _)] ⟨e0, e1, e2, e3, e8, e9, e14, e34, trivial⟩
     replace r0 : ownR RowE 36 ((ys.set ((j : Int)).toNat (nth ys ((j : Int) - 1))).set ((j : Int) - 1).toNat (nth ys ((j : Int)))) (τ7 0) v w7 := f7.ro 17 e0 rfl
     clear f7
     show _
     show Code.wp _ _ _ a7 w7
     refine region_St (bf := [0, 1, 3]) (sp := [det _ 35 _, det _ 36 _, det _ 9 _]) [io r0] mixed st7 (by kernel_rfl) ⟨r0, trivial⟩
      ⟨Ob.d fun c => r_move rfl (c.p e9),
      Ob.d fun c => r_sub rfl (c.n 0 rfl) rfl (by omega),
      Ob.d fun c => r_assign rfl (c.n 1 rfl), trivial⟩ ?_
     intro a8 w8 τ8 st8 f8
     obtain ⟨e0, e1, e2, e3, e8, e14, e34, -⟩ := f8.ks [(0, _), (1, _), (2, _), (3, _), (8, _), (14, _), (34, _)] ⟨e0, e1, e2, e3, e8, e14, e34, trivial⟩
     have e9 : get a8 9 = (.int .i64 ((j : Int) - 1)) := f8.v 2 rfl
     replace r0 := f8.io 0 rfl
     clear f8
     refine ⟨⟨j - 1, swp ys (j : Int) ((j : Int) - 1), τ8, ?_, ?_, ?_, ?_, st8, (e9.trans (int_eq (by omega))), e0, e1, e2, e3, e8, e14, ?_⟩, ?_⟩
     · omega
     · omega
     · rw [swp_len]; exact q2
     · exact (bub_step (by omega) (by simp only [ltR, decide_eq_true_eq]; omega)).symm.trans q3
     · exact r0.cast (by rfl)
     · simp only [m9, e9, intOf]; omega
   try simp only [Bool.and_eq_false_iff, decide_eq_false_iff_not, Int.not_lt] at hc2
   refine wp_exit ?_
   repeat (with_reducible refine then_exit ?_)
   refine exit_here ?_
   show _
   show Code.wp _ _ _ a6 w6
   refine region_St (bf := [0, 1, 3]) (sp := [det _ 15 _, det _ 16 _, det _ 8 _]) [io r0] mixed st6 (by kernel_rfl) ⟨r0, trivial⟩
    ⟨Ob.d fun c => r_move rfl (c.p e8),
    Ob.d fun c => r_add rfl (c.n 0 rfl) rfl (by omega),
    Ob.d fun c => r_assign rfl (c.n 1 rfl), trivial⟩ ?_
   intro a9 w9 τ9 st9 f9
   obtain ⟨e0, e1, e2, e3, e9, e14, e34, -⟩ := f9.ks [(0, _), (1, _), (2, _), (3, _), (9, _), (14, _), (34, _)] ⟨e0, e1, e2, e3, e9, e14, e34, trivial⟩
   have e8 : get a9 8 = (.int .i64 ((a : Int) + 1 + (n : Int) + 1)) := f9.v 2 rfl
   replace r0 := f9.io 0 rfl
   clear f9
   refine ⟨⟨n + 1, τ9, ?_, st9, (e8.trans (int_eq (by omega))), e0, e1, e2, e3, ?_⟩, ?_⟩
   · omega
   · exact r0.cast (by exact (((bub_stop (by rintro ⟨g1, g2⟩; simp only [ltR, decide_eq_true_eq] at g2; omega)).symm).trans q3).symm)
   · simp only [m8, e8, intOf]; omega
 try simp only [decide_eq_false_iff_not, Int.not_lt] at hc1
 refine wp_exit ?_
 repeat (with_reducible refine then_exit ?_)
 refine exit_here ?_
 refine end0 (fn := Try.f42) rfl st3.defers ?_
 obtain rfl : n = b - (a + 1) := by omega
 rw [insSeq_eq h1 h2] at r0
 exact ⟨rfl, r0.1, st3.extIn⟩

theorem rowIns_c (v : Value) (xs : List (ByteArray × ByteArray)) (a b : Int) (w : World) (ho : OwnT RowE 36 w v xs) (ha : 0 ≤ a) (h1 : a ≤ b) (h2 : b ≤ xs.length) (hbig : xs.length ≤ 1000000000000) : Calls Try.prog 42 #[v, .int .i64 a, .int .i64 b, (.func (.func 28) #[] #[])] w (fun e w' => e = .returned (.tuple #[]) ∧ OwnT RowE 36 w' v (insF ltR xs a.toNat b.toNat) ∧ Ext (fun k => v.ownBlock = some k) w w') := by
  obtain ⟨a, rfl⟩ := Int.eq_ofNat_of_zero_le ha
  obtain ⟨b, rfl⟩ := Int.eq_ofNat_of_zero_le (Int.le_trans ha h1)
  exact rowIns_n v xs a b w ho (by omega) (by omega) hbig

set_option maxRecDepth 100000 in
theorem rowRot_n (v : Value) (xs : List (ByteArray × ByteArray)) (a m b : Nat) (w : World) (ho : OwnT RowE 36 w v xs) (h1 : a < m) (h2 : m < b) (h3 : b ≤ xs.length) : Calls Try.prog 44 #[v, (.int .i64 ((a : Int))), (.int .i64 ((m : Int))), (.int .i64 ((b : Int))), (.func (.func 28) #[] #[])] w (fun e w' => e = .returned (.tuple #[]) ∧ OwnT RowE 36 w' v (rotF xs a m b) ∧ Ext (fun k => v.ownBlock = some k) w w') := by
 refine enterIn (fun g => v.ownBlock = some g) (fun g hg => ho.lt g hg) (n := 58) Try.func44 rfl rfl (Nat.le_of_ble_eq_true rfl) ?_
 intro a0 τ0 ha hτ st0
 have e0 : get a0 0 = v := ha 0 _ rfl
 have e1 : get a0 1 = (.int .i64 ((a : Int))) := ha 1 _ rfl
 have e2 : get a0 2 = (.int .i64 ((m : Int))) := ha 2 _ rfl
 have e3 : get a0 3 = (.int .i64 ((b : Int))) := ha 3 _ rfl
 have e4 : get a0 4 = (.func (.func 28) #[] #[]) := ha 4 _ rfl
 clear ha
 have r0 : ownR RowE 36 xs (τ0 0) v w := ⟨ho, fun g hg => by rw [hτ]; exact hg⟩
 have hle := r0.le
 refine wp_seq ?_
 refine region_St (bf := [0, 0, 3, 7]) (sp := [det _ 12 _, det _ 13 _, det _ 14 _, det _ 10 _]) [io r0] mixed st0 (by kernel_rfl) ⟨r0, trivial⟩
  ⟨Ob.d fun c => r_move rfl (c.p e2),
  Ob.d fun c => r_move rfl (c.p e1),
  Ob.d fun c => r_sub rfl (c.n 0 rfl) (c.n 1 rfl) (by omega),
  Ob.d fun c => r_assign rfl (c.n 2 rfl), trivial⟩ ?_
 intro a1 w1 τ1 st1 f1
 obtain ⟨e0, e2, e3, e4, -⟩ := f1.ks [(0, _), (2, _), (3, _), (4, _)] ⟨e0, e2, e3, e4, trivial⟩
 have e10 : get a1 10 = (.int .i64 ((m : Int) - (a : Int))) := f1.v 3 rfl
 replace r0 := f1.io 0 rfl
 clear f1
 show Code.wp _ _ _ a1 w1
 refine wp_seq ?_
 refine region_St (bf := [0, 0, 3, 7]) (sp := [det _ 15 _, det _ 16 _, det _ 17 _, det _ 11 _]) [io r0] mixed st1 (by kernel_rfl) ⟨r0, trivial⟩
  ⟨Ob.d fun c => r_move rfl (c.p e3),
  Ob.d fun c => r_move rfl (c.p e2),
  Ob.d fun c => r_sub rfl (c.n 0 rfl) (c.n 1 rfl) (by omega),
  Ob.d fun c => r_assign rfl (c.n 2 rfl), trivial⟩ ?_
 intro a2 w2 τ2 st2 f2
 obtain ⟨e0, e2, e4, e10, -⟩ := f2.ks [(0, _), (2, _), (4, _), (10, _)] ⟨e0, e2, e4, e10, trivial⟩
 have e11 : get a2 11 = (.int .i64 ((b : Int) - (m : Int))) := f2.v 3 rfl
 replace r0 := f2.io 0 rfl
 clear f2
 show Code.wp _ _ _ a2 w2
 refine wp_seq ?_
 refine wp_block ?_
 refine wp_loop (fun a_ w_ => ∃ (f i j : Nat) (ys : List (ByteArray × ByteArray)) (τ : Nat → Foot), (1 ≤ i) ∧
      (1 ≤ j) ∧
      (i ≤ m) ∧
      (m + j ≤ xs.length) ∧
      (ys.length = xs.length) ∧
      (i + j ≤ f + 2) ∧
      (rotG f ys m i j = rotF xs a m b) ∧
      St (fun k => v.ownBlock = some k ∨ w.heap.size ≤ k) w 58 a_ w_ τ ∧
      get a_ 10 = (.int .i64 ((i : Int))) ∧
      get a_ 11 = (.int .i64 ((j : Int))) ∧
      get a_ 0 = v ∧
      get a_ 2 = (.int .i64 ((m : Int))) ∧
      get a_ 4 = (.func (.func 28) #[] #[]) ∧
      ownR RowE 36 (ys) (τ 0) v w_) (fun a_ _ => (intOf (get a_ 10)).toNat + (intOf (get a_ 11)).toNat) ?_ ?_
 · refine ⟨b - a, m - a, b - m, xs, τ2, ?_, ?_, ?_, ?_, ?_, ?_, ?_, st2, (e10.trans (int_eq (by omega))), (e11.trans (int_eq (by omega))), e0, e2, e4, ?_⟩
   · omega
   · omega
   · omega
   · omega
   · rfl
   · omega
   · exact rotG_eq (by omega) (by omega) (by omega) (by omega)
   · exact r0.cast (by rfl)
 intro a3 w3 hI
 obtain ⟨f, i, j, ys, τ3, q0, q1, q2, q3, q4, q5, q6, st3, e10, e11, e0, e2, e4, r0⟩ := hI
 have m10 := e10
 have m11 := e11
 refine wp_seq ?_
 refine wp_seq ?_
 refine region_St (bf := [0, 0, 3]) (sp := [det _ 18 _, det _ 19 _, det _ 20 _]) [io r0] mixed st3 (by kernel_rfl) ⟨r0, trivial⟩
  ⟨Ob.d fun c => r_move rfl (c.p e10),
  Ob.d fun c => r_move rfl (c.p e11),
  Ob.d fun c => r_neq rfl (c.n 0 rfl) (c.n 1 rfl), trivial⟩ ?_
 intro a4 w4 τ4 st4 f4
 obtain ⟨e0, e2, e4, e10, e11, -⟩ := f4.ks [(0, _), (2, _), (4, _), (10, _), (11, _)] ⟨e0, e2, e4, e10, e11, trivial⟩
 have e20 : get a4 20 = (.bool (!decide ((i : Int) = (j : Int)))) := f4.v 2 rfl
 replace r0 := f4.io 0 rfl
 clear f4
 show Code.wp _ _ _ a4 w4
 refine wp_cond_split (t := !decide ((i : Int) = (j : Int))) e20 (fun hc1 => ?_) (fun hc1 => ?_)
 · try simp only [Bool.not_eq_true', Bool.not_eq_false', decide_eq_true_eq, decide_eq_false_iff_not] at hc1
   refine wp_skip ?_
   show Code.wp _ _ _ a4 w4
   refine wp_block ?_
   refine wp_seq ?_
   refine region_St (bf := [0, 0, 3]) (sp := [det _ 21 _, det _ 22 _, det _ 23 _]) [io r0] mixed st4 (by kernel_rfl) ⟨r0, trivial⟩
    ⟨Ob.d fun c => r_move rfl (c.p e10),
    Ob.d fun c => r_move rfl (c.p e11),
    Ob.d fun c => r_gtr rfl (c.n 0 rfl) (c.n 1 rfl), trivial⟩ ?_
   intro a5 w5 τ5 st5 f5
   obtain ⟨e0, e2, e4, e10, e11, e20, -⟩ := f5.ks [(0, _), (2, _), (4, _), (10, _), (11, _), (20, _)] ⟨e0, e2, e4, e10, e11, e20, trivial⟩
   have e23 : get a5 23 = (.bool (decide ((j : Int) < (i : Int)))) := f5.v 2 rfl
   replace r0 := f5.io 0 rfl
   clear f5
   show Code.wp _ _ _ a5 w5
   refine wp_cond_split (t := decide ((j : Int) < (i : Int))) e23 (fun hc2 => ?_) (fun hc2 => ?_)
   · try simp only [decide_eq_true_eq] at hc2
     refine wp_seq ?_
     refine region_St (bf := [0, 0, 0, 6, 0, 0, 0, 127]) (sp := [det _ 24 _, det _ 25 _, det _ 26 _, det _ 27 _, det _ 28 _, det _ 29 _, det _ 30 _, own _ _ _ 0 0 _]) [io r0] mixed st5 (by kernel_rfl) ⟨r0, trivial⟩
      ⟨Ob.d fun c => r_move rfl (c.p e0),
      Ob.d fun c => r_move rfl (c.p e2),
      Ob.d fun c => r_move rfl (c.p e10),
      Ob.d fun c => r_sub rfl (c.n 1 rfl) (c.n 2 rfl) (by omega),
      Ob.d fun c => r_move rfl (c.p e2),
      Ob.d fun c => r_move rfl (c.p e11),
      Ob.d fun c => r_move rfl (c.p e4),
      Ob.callIn rfl rfl rfl (by decide) (fun _ a_ _ _ c => ⟨_, _, (e_call5 rfl rfl Try.call45 (c.n 0 rfl) (c.n 3 rfl) (c.n 4 rfl) (c.n 5 rfl) (c.n 6 rfl)), c.p e0, c.io 0 rfl, fun ho_ => rowSwap_c v ys ((m : Int) - (i : Int)) (m : Int) (j : Int) _ ho_ (by omega) (by omega) (by omega) (by omega) (by omega)⟩), trivial⟩ ?_
     intro a6 w6 τ6 st6 f6
     obtain ⟨e0, e2, e4, e10, e11, e20, e23, -⟩ := f6.ks [(0, _), (2, _), (4, _), (10, _), (11, _), (20, _), (23, _)] ⟨e0, e2, e4, e10, e11, e20, e23, trivial⟩
     replace r0 : ownR RowE 36 (swR ys ((m : Int) - (i : Int)).toNat (m : Int).toNat (j : Int).toNat) (τ6 0) v w6 := f6.ro 7 e0 rfl
     clear f6
     show Code.wp _ _ _ a6 w6
     refine region_St (bf := [0, 0, 3, 7]) (sp := [det _ 32 _, det _ 33 _, det _ 34 _, det _ 10 _]) [io r0] mixed st6 (by kernel_rfl) ⟨r0, trivial⟩
      ⟨Ob.d fun c => r_move rfl (c.p e10),
      Ob.d fun c => r_move rfl (c.p e11),
      Ob.d fun c => r_sub rfl (c.n 0 rfl) (c.n 1 rfl) (by omega),
      Ob.d fun c => r_assign rfl (c.n 2 rfl), trivial⟩ ?_
     intro a7 w7 τ7 st7 f7
     obtain ⟨e0, e2, e4, e11, e20, e23, -⟩ := f7.ks [(0, _), (2, _), (4, _), (11, _), (20, _), (23, _)] ⟨e0, e2, e4, e11, e20, e23, trivial⟩
     have e10 : get a7 10 = (.int .i64 ((i : Int) - (j : Int))) := f7.v 3 rfl
     replace r0 := f7.io 0 rfl
     clear f7
     show _
     refine ⟨⟨f - 1, i - j, j, swR ys ((m : Int) - (i : Int)).toNat (m : Int).toNat (j : Int).toNat, τ7, ?_, ?_, ?_, ?_, ?_, ?_, ?_, st7, (e10.trans (int_eq (by omega))), (e11.trans (int_eq (by omega))), e0, e2, e4, ?_⟩, ?_⟩
     · omega
     · omega
     · omega
     · omega
     · rw [swR_len]; exact q4
     · omega
     · rcases Nat.lt_trichotomy i j with h_ | h_ | h_
       · first | omega | (rw [rotG_lt h_ (by omega)] at q6; simpa only [Int.toNat_natCast, tn, tn2] using q6)
       · omega
       · first | omega | (rw [rotG_gt h_ (by omega)] at q6; simpa only [Int.toNat_natCast, tn, tn2] using q6)
     · exact r0.cast (by rfl)
     · simp only [m10, m11, e10, e11, intOf]; omega
   try simp only [decide_eq_false_iff_not, Int.not_lt] at hc2
   refine wp_seq ?_
   refine region_St (bf := [0, 0, 0, 6, 0, 0, 48, 0, 240, 0, 0, 2047]) (sp := [det _ 35 _, det _ 36 _, det _ 37 _, det _ 38 _, det _ 39 _, det _ 40 _, det _ 41 _, det _ 42 _, det _ 43 _, det _ 44 _, det _ 45 _, own _ _ _ 0 0 _]) [io r0] mixed st5 (by kernel_rfl) ⟨r0, trivial⟩
    ⟨Ob.d fun c => r_move rfl (c.p e0),
    Ob.d fun c => r_move rfl (c.p e2),
    Ob.d fun c => r_move rfl (c.p e10),
    Ob.d fun c => r_sub rfl (c.n 1 rfl) (c.n 2 rfl) (by omega),
    Ob.d fun c => r_move rfl (c.p e2),
    Ob.d fun c => r_move rfl (c.p e11),
    Ob.d fun c => r_add rfl (c.n 4 rfl) (c.n 5 rfl) (by omega),
    Ob.d fun c => r_move rfl (c.p e10),
    Ob.d fun c => r_sub rfl (c.n 6 rfl) (c.n 7 rfl) (by omega),
    Ob.d fun c => r_move rfl (c.p e10),
    Ob.d fun c => r_move rfl (c.p e4),
    Ob.callIn rfl rfl rfl (by decide) (fun _ a_ _ _ c => ⟨_, _, (e_call5 rfl rfl Try.call45 (c.n 0 rfl) (c.n 3 rfl) (c.n 8 rfl) (c.n 9 rfl) (c.n 10 rfl)), c.p e0, c.io 0 rfl, fun ho_ => rowSwap_c v ys ((m : Int) - (i : Int)) ((m : Int) + (j : Int) - (i : Int)) (i : Int) _ ho_ (by omega) (by omega) (by omega) (by omega) (by omega)⟩), trivial⟩ ?_
   intro a8 w8 τ8 st8 f8
   obtain ⟨e0, e2, e4, e10, e11, e20, e23, -⟩ := f8.ks [(0, _), (2, _), (4, _), (10, _), (11, _), (20, _), (23, _)] ⟨e0, e2, e4, e10, e11, e20, e23, trivial⟩
   replace r0 : ownR RowE 36 (swR ys ((m : Int) - (i : Int)).toNat ((m : Int) + (j : Int) - (i : Int)).toNat (i : Int).toNat) (τ8 0) v w8 := f8.ro 11 e0 rfl
   clear f8
   show Code.wp _ _ _ a8 w8
   refine region_St (bf := [0, 0, 3, 7]) (sp := [det _ 47 _, det _ 48 _, det _ 49 _, det _ 11 _]) [io r0] mixed st8 (by kernel_rfl) ⟨r0, trivial⟩
    ⟨Ob.d fun c => r_move rfl (c.p e11),
    Ob.d fun c => r_move rfl (c.p e10),
    Ob.d fun c => r_sub rfl (c.n 0 rfl) (c.n 1 rfl) (by omega),
    Ob.d fun c => r_assign rfl (c.n 2 rfl), trivial⟩ ?_
   intro a9 w9 τ9 st9 f9
   obtain ⟨e0, e2, e4, e10, e20, e23, -⟩ := f9.ks [(0, _), (2, _), (4, _), (10, _), (20, _), (23, _)] ⟨e0, e2, e4, e10, e20, e23, trivial⟩
   have e11 : get a9 11 = (.int .i64 ((j : Int) - (i : Int))) := f9.v 3 rfl
   replace r0 := f9.io 0 rfl
   clear f9
   show _
   refine ⟨⟨f - 1, i, j - i, swR ys ((m : Int) - (i : Int)).toNat ((m : Int) + (j : Int) - (i : Int)).toNat (i : Int).toNat, τ9, ?_, ?_, ?_, ?_, ?_, ?_, ?_, st9, (e10.trans (int_eq (by omega))), (e11.trans (int_eq (by omega))), e0, e2, e4, ?_⟩, ?_⟩
   · omega
   · omega
   · omega
   · omega
   · rw [swR_len]; exact q4
   · omega
   · rcases Nat.lt_trichotomy i j with h_ | h_ | h_
     · first | omega | (rw [rotG_lt h_ (by omega)] at q6; simpa only [Int.toNat_natCast, tn, tn2] using q6)
     · omega
     · first | omega | (rw [rotG_gt h_ (by omega)] at q6; simpa only [Int.toNat_natCast, tn, tn2] using q6)
   · exact r0.cast (by rfl)
   · simp only [m10, m11, e10, e11, intOf]; omega
 try simp only [Bool.not_eq_true', Bool.not_eq_false', decide_eq_true_eq, decide_eq_false_iff_not] at hc1
 refine wp_exit ?_
 repeat (with_reducible refine then_exit ?_)
 refine exit_here ?_
 show Code.wp _ _ _ a4 w4
 refine region_St (bf := [0, 0, 0, 6, 0, 0, 0, 127]) (sp := [det _ 50 _, det _ 51 _, det _ 52 _, det _ 53 _, det _ 54 _, det _ 55 _, det _ 56 _, own _ _ _ 0 0 _]) [io r0] mixed st4 (by kernel_rfl) ⟨r0, trivial⟩
  ⟨Ob.d fun c => r_move rfl (c.p e0),
  Ob.d fun c => r_move rfl (c.p e2),
  Ob.d fun c => r_move rfl (c.p e10),
  Ob.d fun c => r_sub rfl (c.n 1 rfl) (c.n 2 rfl) (by omega),
  Ob.d fun c => r_move rfl (c.p e2),
  Ob.d fun c => r_move rfl (c.p e10),
  Ob.d fun c => r_move rfl (c.p e4),
  Ob.callIn rfl rfl rfl (by decide) (fun _ a_ _ _ c => ⟨_, _, (e_call5 rfl rfl Try.call45 (c.n 0 rfl) (c.n 3 rfl) (c.n 4 rfl) (c.n 5 rfl) (c.n 6 rfl)), c.p e0, c.io 0 rfl, fun ho_ => rowSwap_c v ys ((m : Int) - (i : Int)) (m : Int) (i : Int) _ ho_ (by omega) (by omega) (by omega) (by omega) (by omega)⟩), trivial⟩ ?_
 intro a10 w10 τ10 st10 f10
 obtain ⟨e0, -⟩ := f10.ks [(0, _)] ⟨e0, trivial⟩
 replace r0 : ownR RowE 36 (swR ys ((m : Int) - (i : Int)).toNat (m : Int).toNat (i : Int).toNat) (τ10 0) v w10 := f10.ro 7 e0 rfl
 clear f10
 refine end0 (fn := Try.f44) rfl st10.defers ?_
 obtain rfl : i = j := by omega
 rw [rotG_same] at q6
 have e_ : swR ys ((m : Int) - (i : Int)).toNat (m : Int).toNat (i : Int).toNat = rotF xs a m b := by rw [← q6]; congr 1 <;> omega
 exact ⟨rfl, e_ ▸ r0.1, st10.extIn⟩

theorem rowRot_c (v : Value) (xs : List (ByteArray × ByteArray)) (a m b : Int) (w : World) (ho : OwnT RowE 36 w v xs) (ha : 0 ≤ a) (h1 : a < m) (h2 : m < b) (h3 : b ≤ xs.length) : Calls Try.prog 44 #[v, .int .i64 a, .int .i64 m, .int .i64 b, (.func (.func 28) #[] #[])] w (fun e w' => e = .returned (.tuple #[]) ∧ OwnT RowE 36 w' v (rotF xs a.toNat m.toNat b.toNat) ∧ Ext (fun k => v.ownBlock = some k) w w') := by
  obtain ⟨a, rfl⟩ := Int.eq_ofNat_of_zero_le ha
  obtain ⟨m, rfl⟩ := Int.eq_ofNat_of_zero_le (show 0 ≤ m by omega)
  obtain ⟨b, rfl⟩ := Int.eq_ofNat_of_zero_le (show 0 ≤ b by omega)
  exact rowRot_n v xs a m b w ho (by omega) (by omega) (by omega)
end B
end Go.Proofs.Ythaeepiichphjaa
