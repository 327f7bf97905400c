/-
  Walks, printed by a program (gen.py): TrE1.
-/
import Derived.Test.YtocmchlhbniloaaTrD
set_option linter.unusedSimpArgs false
set_option linter.unusedVariables false
namespace Go.Proofs.Ytocmchlhbniloaa
namespace B
open Go.RowKit
open Srt
def bareF (ch : ByteArray) (ng : Bool) (rows : List Rw) (mn mx : Int) (lz : Bool) : Bool := ((((eqT ch (⟨#[]⟩ : ByteArray) && !ng) && decide ((rows.length : Int) = 0)) && decide (mn = 0)) && decide (mx = 0)) && !lz

set_option maxRecDepth 100000 in
theorem bare_c (k : Int) (ch : ByteArray) (ng : Bool) (rv : Value) (rows : List (ByteArray × ByteArray)) (mn mx : Int) (lz : Bool) (kv : Value) (ho : kv.oneCell' = true) (w : World) (hS : SlT RowE w rv rows) : Calls Try.prog 50 #[(.agg #[(.int .i64 (k)), (.string (ch)), (.bool (ng)), rv, (.int .i64 (mn)), (.int .i64 (mx)), (.bool (lz)), kv])] w (fun e w' => e = .returned (.bool (bareF ch ng rows mn mx lz)) ∧ Ext none' w w') := by
 refine enter (n := 32) Try.func50 rfl rfl (Nat.le_of_ble_eq_true rfl) ?_
 intro a0 τ0 ha st0
 have e0 : get a0 0 = (.agg #[(.int .i64 (k)), (.string (ch)), (.bool (ng)), rv, (.int .i64 (mn)), (.int .i64 (mx)), (.bool (lz)), kv]) := ha 0 _ rfl
 clear ha
 refine wp_seq ?_
 refine region_St (bf := [0, 0]) (sp := [box _ _ 0 1 [(.int .i64 (k)), (.string (ch)), (.bool (ng)), rv, (.int .i64 (mn)), (.int .i64 (mx)), (.bool (lz)), kv], det _ 2 _]) [] mixed st0 (by kernel_rfl) trivial
  ⟨Ob.box (v := (.agg #[(.int .i64 (k)), (.string (ch)), (.bool (ng)), rv, (.int .i64 (mn)), (.int .i64 (mx)), (.bool (lz)), kv])) rfl rfl rfl rfl rfl (fun _ _ _ _ c => (c.p e0)),
  Ob.d fun c => r_assign rfl rfl, trivial⟩ ?_
 intro a1 w1 τ1 st1 f1
 obtain ⟨b1x1, e1⟩ : ∃ b, get a1 1 = b := ⟨_, rfl⟩
 have e2 : get a1 2 = (.bool (false)) := f1.v 1 rfl
 have r0 : boxR 25 [(.int .i64 (k)), (.string (ch)), (.bool (ng)), rv, (.int .i64 (mn)), (.int .i64 (mx)), (.bool (lz)), kv] (τ1 0) b1x1 w1 := f1.rb 0 e1 rfl
 clear f1
 show Code.wp _ _ _ a1 w1
 refine wp_seq ?_
 refine region_St (bf := [0, 1, 3, 7, 15, 31, 63, 127, 255, 511, 1023, 2047, 4095, 8191, 16383, 32767, 65535, 131071, 262143, 524287, 1048575, 2097151, 4194303, 8388607, 16777215, 33554431, 67108863, 134217727, 268435455, 536870911]) (sp := [det _ 3 _, det _ 4 _, det _ 5 _, det _ 6 _, gdet _ 7 _ _, gdet _ 8 _ _, gdet _ 9 _ _, det _ 10 _, det _ 11 _, gdet _ 12 _ _, gdet _ 13 _ _, gdet _ 14 _ _, gdet _ 15 _ _, det _ 16 _, det _ 17 _, gdet _ 18 _ _, gdet _ 19 _ _, gdet _ 20 _ _, det _ 21 _, det _ 22 _, gdet _ 23 _ _, gdet _ 24 _ _, gdet _ 25 _ _, det _ 26 _, det _ 27 _, gdet _ 28 _ _, gdet _ 29 _ _, gdet _ 30 _ _, det _ 31 _, det _ 2 _]) [ib r0] mixed st1 (by kernel_rfl) ⟨r0, trivial⟩
  ⟨Ob.d fun c => r_fieldAddr rfl Try.underlying25 rfl rfl Try.sizeOf9 ((c.p e1).trans r0.ptr),
  Ob.d fun c => r_load1 rfl Try.isAgg9 (c.n 0 rfl) ((c.ib 0 rfl).cell (j := 1) rfl),
  Ob.d fun c => r_seql rfl (c.n 1 rfl) rfl,
  Ob.d fun c => r_move rfl (c.n 2 rfl),
  Ob.g 3 true rfl fun c hpc => r_fieldAddr rfl Try.underlying25 rfl rfl Try.sizeOf4 ((c.p e1).trans r0.ptr),
  Ob.g 3 true rfl fun c hpc => r_load1 rfl Try.isAgg4 (c.m 4 rfl hpc) ((c.ib 0 rfl).cell (j := 2) rfl),
  Ob.g 3 true rfl fun c hpc => r_not rfl (c.m 5 rfl hpc),
  Ob.d fun c => r_and rfl (c.n 3 rfl) (fun h => c.m 6 rfl h),
  Ob.d fun c => r_move rfl (c.n 7 rfl),
  Ob.g 8 true rfl fun c hpc => r_fieldAddr rfl Try.underlying25 rfl rfl Try.sizeOf22 ((c.p e1).trans r0.ptr),
  Ob.g 8 true rfl fun c hpc => r_load1 rfl Try.isAgg22 (c.m 9 rfl hpc) ((c.ib 0 rfl).cell (j := 3) rfl),
  Ob.g 8 true rfl fun c hpc => r_len rfl Try.underlying22 (c.m 10 rfl hpc) hS.sl,
  Ob.g 8 true rfl fun c hpc => r_eql rfl (c.m 11 rfl hpc) rfl,
  Ob.d fun c => r_and rfl (c.n 8 rfl) (fun h => c.m 12 rfl h),
  Ob.d fun c => r_move rfl (c.n 13 rfl),
  Ob.g 14 true rfl fun c hpc => r_fieldAddr rfl Try.underlying25 rfl rfl Try.sizeOf3 ((c.p e1).trans r0.ptr),
  Ob.g 14 true rfl fun c hpc => r_load1 rfl Try.isAgg3 (c.m 15 rfl hpc) ((c.ib 0 rfl).cell (j := 4) rfl),
  Ob.g 14 true rfl fun c hpc => r_eql rfl (c.m 16 rfl hpc) rfl,
  Ob.d fun c => r_and rfl (c.n 14 rfl) (fun h => c.m 17 rfl h),
  Ob.d fun c => r_move rfl (c.n 18 rfl),
  Ob.g 19 true rfl fun c hpc => r_fieldAddr rfl Try.underlying25 rfl rfl Try.sizeOf3 ((c.p e1).trans r0.ptr),
  Ob.g 19 true rfl fun c hpc => r_load1 rfl Try.isAgg3 (c.m 20 rfl hpc) ((c.ib 0 rfl).cell (j := 5) rfl),
  Ob.g 19 true rfl fun c hpc => r_eql rfl (c.m 21 rfl hpc) rfl,
  Ob.d fun c => r_and rfl (c.n 19 rfl) (fun h => c.m 22 rfl h),
  Ob.d fun c => r_move rfl (c.n 23 rfl),
  Ob.g 24 true rfl fun c hpc => r_fieldAddr rfl Try.underlying25 rfl rfl Try.sizeOf4 ((c.p e1).trans r0.ptr),
  Ob.g 24 true rfl fun c hpc => r_load1 rfl Try.isAgg4 (c.m 25 rfl hpc) ((c.ib 0 rfl).cell (j := 6) rfl),
  Ob.g 24 true rfl fun c hpc => r_not rfl (c.m 26 rfl hpc),
  Ob.d fun c => r_and rfl (c.n 24 rfl) (fun h => c.m 27 rfl h),
  Ob.d fun c => r_assign rfl (c.n 28 rfl), trivial⟩ ?_
 intro a2 w2 τ2 st2 f2
 have e2 : get a2 2 = (.bool ((((((eqT ch (⟨#[]⟩ : ByteArray)) && (!ng)) && (decide ((rows.length : Int) = 0))) && (decide (mn = 0))) && (decide (mx = 0))) && (!lz))) := f2.v 29 rfl
 clear f2
 show Code.wp _ _ _ a2 w2
 refine wp_ret ?_
 repeat (first | with_reducible refine then_ret ?_ | with_reducible refine block_ret ?_)
 refine ret1 (fn := Try.f50) rfl st2.defers e2 ?_
 exact ⟨rfl, st2.ext0⟩

set_option maxRecDepth 100000 in
theorem refBare_c (k : Int) (ch : ByteArray) (ng : Bool) (rv : Value) (rows : List (ByteArray × ByteArray)) (mn mx : Int) (lz : Bool) (kv : Value) (ho : kv.oneCell' = true) (w : World) (hS : SlT RowE w rv rows) : Calls Try.prog 41 #[(.agg #[(.int .i64 (k)), (.string (ch)), (.bool (ng)), rv, (.int .i64 (mn)), (.int .i64 (mx)), (.bool (lz)), kv])] w (fun e w' => e = .returned (.bool (bareF ch ng rows mn mx lz)) ∧ Ext none' w w') := by
 refine enter (n := 32) Try.func41 rfl rfl (Nat.le_of_ble_eq_true rfl) ?_
 intro a0 τ0 ha st0
 have e0 : get a0 0 = (.agg #[(.int .i64 (k)), (.string (ch)), (.bool (ng)), rv, (.int .i64 (mn)), (.int .i64 (mx)), (.bool (lz)), kv]) := ha 0 _ rfl
 clear ha
 refine wp_seq ?_
 refine region_St (bf := [0, 0]) (sp := [box _ _ 0 1 [(.int .i64 (k)), (.string (ch)), (.bool (ng)), rv, (.int .i64 (mn)), (.int .i64 (mx)), (.bool (lz)), kv], det _ 2 _]) [] mixed st0 (by kernel_rfl) trivial
  ⟨Ob.box (v := (.agg #[(.int .i64 (k)), (.string (ch)), (.bool (ng)), rv, (.int .i64 (mn)), (.int .i64 (mx)), (.bool (lz)), kv])) rfl rfl rfl rfl rfl (fun _ _ _ _ c => (c.p e0)),
  Ob.d fun c => r_assign rfl rfl, trivial⟩ ?_
 intro a1 w1 τ1 st1 f1
 obtain ⟨b1x1, e1⟩ : ∃ b, get a1 1 = b := ⟨_, rfl⟩
 have e2 : get a1 2 = (.bool (false)) := f1.v 1 rfl
 have r0 : boxR 25 [(.int .i64 (k)), (.string (ch)), (.bool (ng)), rv, (.int .i64 (mn)), (.int .i64 (mx)), (.bool (lz)), kv] (τ1 0) b1x1 w1 := f1.rb 0 e1 rfl
 clear f1
 show Code.wp _ _ _ a1 w1
 refine wp_seq ?_
 refine region_St (bf := [0, 1, 3, 7, 15, 31, 63, 127, 255, 511, 1023, 2047, 4095, 8191, 16383, 32767, 65535, 131071, 262143, 524287, 1048575, 2097151, 4194303, 8388607, 16777215, 33554431, 67108863, 134217727, 268435455, 536870911]) (sp := [det _ 3 _, det _ 4 _, det _ 5 _, det _ 6 _, gdet _ 7 _ _, gdet _ 8 _ _, gdet _ 9 _ _, det _ 10 _, det _ 11 _, gdet _ 12 _ _, gdet _ 13 _ _, gdet _ 14 _ _, gdet _ 15 _ _, det _ 16 _, det _ 17 _, gdet _ 18 _ _, gdet _ 19 _ _, gdet _ 20 _ _, det _ 21 _, det _ 22 _, gdet _ 23 _ _, gdet _ 24 _ _, gdet _ 25 _ _, det _ 26 _, det _ 27 _, gdet _ 28 _ _, gdet _ 29 _ _, gdet _ 30 _ _, det _ 31 _, det _ 2 _]) [ib r0] mixed st1 (by kernel_rfl) ⟨r0, trivial⟩
  ⟨Ob.d fun c => r_fieldAddr rfl Try.underlying25 rfl rfl Try.sizeOf9 ((c.p e1).trans r0.ptr),
  Ob.d fun c => r_load1 rfl Try.isAgg9 (c.n 0 rfl) ((c.ib 0 rfl).cell (j := 1) rfl),
  Ob.d fun c => r_seql rfl (c.n 1 rfl) rfl,
  Ob.d fun c => r_move rfl (c.n 2 rfl),
  Ob.g 3 true rfl fun c hpc => r_fieldAddr rfl Try.underlying25 rfl rfl Try.sizeOf4 ((c.p e1).trans r0.ptr),
  Ob.g 3 true rfl fun c hpc => r_load1 rfl Try.isAgg4 (c.m 4 rfl hpc) ((c.ib 0 rfl).cell (j := 2) rfl),
  Ob.g 3 true rfl fun c hpc => r_not rfl (c.m 5 rfl hpc),
  Ob.d fun c => r_and rfl (c.n 3 rfl) (fun h => c.m 6 rfl h),
  Ob.d fun c => r_move rfl (c.n 7 rfl),
  Ob.g 8 true rfl fun c hpc => r_fieldAddr rfl Try.underlying25 rfl rfl Try.sizeOf22 ((c.p e1).trans r0.ptr),
  Ob.g 8 true rfl fun c hpc => r_load1 rfl Try.isAgg22 (c.m 9 rfl hpc) ((c.ib 0 rfl).cell (j := 3) rfl),
  Ob.g 8 true rfl fun c hpc => r_len rfl Try.underlying22 (c.m 10 rfl hpc) hS.sl,
  Ob.g 8 true rfl fun c hpc => r_eql rfl (c.m 11 rfl hpc) rfl,
  Ob.d fun c => r_and rfl (c.n 8 rfl) (fun h => c.m 12 rfl h),
  Ob.d fun c => r_move rfl (c.n 13 rfl),
  Ob.g 14 true rfl fun c hpc => r_fieldAddr rfl Try.underlying25 rfl rfl Try.sizeOf3 ((c.p e1).trans r0.ptr),
  Ob.g 14 true rfl fun c hpc => r_load1 rfl Try.isAgg3 (c.m 15 rfl hpc) ((c.ib 0 rfl).cell (j := 4) rfl),
  Ob.g 14 true rfl fun c hpc => r_eql rfl (c.m 16 rfl hpc) rfl,
  Ob.d fun c => r_and rfl (c.n 14 rfl) (fun h => c.m 17 rfl h),
  Ob.d fun c => r_move rfl (c.n 18 rfl),
  Ob.g 19 true rfl fun c hpc => r_fieldAddr rfl Try.underlying25 rfl rfl Try.sizeOf3 ((c.p e1).trans r0.ptr),
  Ob.g 19 true rfl fun c hpc => r_load1 rfl Try.isAgg3 (c.m 20 rfl hpc) ((c.ib 0 rfl).cell (j := 5) rfl),
  Ob.g 19 true rfl fun c hpc => r_eql rfl (c.m 21 rfl hpc) rfl,
  Ob.d fun c => r_and rfl (c.n 19 rfl) (fun h => c.m 22 rfl h),
  Ob.d fun c => r_move rfl (c.n 23 rfl),
  Ob.g 24 true rfl fun c hpc => r_fieldAddr rfl Try.underlying25 rfl rfl Try.sizeOf4 ((c.p e1).trans r0.ptr),
  Ob.g 24 true rfl fun c hpc => r_load1 rfl Try.isAgg4 (c.m 25 rfl hpc) ((c.ib 0 rfl).cell (j := 6) rfl),
  Ob.g 24 true rfl fun c hpc => r_not rfl (c.m 26 rfl hpc),
  Ob.d fun c => r_and rfl (c.n 24 rfl) (fun h => c.m 27 rfl h),
  Ob.d fun c => r_assign rfl (c.n 28 rfl), trivial⟩ ?_
 intro a2 w2 τ2 st2 f2
 have e2 : get a2 2 = (.bool ((((((eqT ch (⟨#[]⟩ : ByteArray)) && (!ng)) && (decide ((rows.length : Int) = 0))) && (decide (mn = 0))) && (decide (mx = 0))) && (!lz))) := f2.v 29 rfl
 clear f2
 show Code.wp _ _ _ a2 w2
 refine wp_ret ?_
 repeat (first | with_reducible refine then_ret ?_ | with_reducible refine block_ret ?_)
 refine ret1 (fn := Try.f41) rfl st2.defers e2 ?_
 exact ⟨rfl, st2.ext0⟩
end B
end Go.Proofs.Ytocmchlhbniloaa
