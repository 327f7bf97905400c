/-
  Walks, printed by a program (gen.py): TrX.
-/
import Derived.Test.YtocmchlhbniloaaTrW
set_option linter.unusedSimpArgs false
set_option linter.unusedVariables false
namespace Go.Proofs.Ytocmchlhbniloaa
namespace B
open Go.RowKit
open Srt
set_option maxRecDepth 100000 in
set_option maxHeartbeats 4000000 in
theorem treeSame_c (t u : Tr) (w : World) (hT : TrS w t) (hU : TrS w u) : Calls Try.prog 3 #[(.agg #[(.int .i64 (t.k)), (.string (t.ch)), (.bool (t.ng)), t.rv.v, (.int .i64 (t.mn)), (.int .i64 (t.mx)), (.bool (t.lz)), t.kv.v]), (.agg #[(.int .i64 (u.k)), (.string (u.ch)), (.bool (u.ng)), u.rv.v, (.int .i64 (u.mn)), (.int .i64 (u.mx)), (.bool (u.lz)), u.kv.v])] w (fun e w' => e = .returned (.bool (true)) ∧ Ext none' w w') := by
 refine enter (n := 43) Try.func3 rfl rfl (Nat.le_of_ble_eq_true rfl) ?_
 intro a0 τ0 ha st0
 have e0 : get a0 0 = (.agg #[(.int .i64 (t.k)), (.string (t.ch)), (.bool (t.ng)), t.rv.v, (.int .i64 (t.mn)), (.int .i64 (t.mx)), (.bool (t.lz)), t.kv.v]) := ha 0 _ rfl
 have e1 : get a0 1 = (.agg #[(.int .i64 (u.k)), (.string (u.ch)), (.bool (u.ng)), u.rv.v, (.int .i64 (u.mn)), (.int .i64 (u.mx)), (.bool (u.lz)), u.kv.v]) := ha 1 _ rfl
 clear ha
 refine wp_seq ?_
 refine region_St (bf := [0, 0, 0]) (sp := [box _ _ 0 2 [(.int .i64 (t.k)), (.string (t.ch)), (.bool (t.ng)), t.rv.v, (.int .i64 (t.mn)), (.int .i64 (t.mx)), (.bool (t.lz)), t.kv.v], box _ _ 1 3 [(.int .i64 (u.k)), (.string (u.ch)), (.bool (u.ng)), u.rv.v, (.int .i64 (u.mn)), (.int .i64 (u.mx)), (.bool (u.lz)), u.kv.v], det _ 4 _]) [] mixed st0 (by kernel_rfl) trivial
  ⟨Ob.box (v := (.agg #[(.int .i64 (t.k)), (.string (t.ch)), (.bool (t.ng)), t.rv.v, (.int .i64 (t.mn)), (.int .i64 (t.mx)), (.bool (t.lz)), t.kv.v])) rfl rfl rfl rfl rfl (fun _ _ _ _ c => (c.p e0)),
  Ob.box (v := (.agg #[(.int .i64 (u.k)), (.string (u.ch)), (.bool (u.ng)), u.rv.v, (.int .i64 (u.mn)), (.int .i64 (u.mx)), (.bool (u.lz)), u.kv.v])) rfl rfl rfl rfl rfl (fun _ _ _ _ c => (c.p e1)),
  Ob.d fun c => r_assign rfl rfl, trivial⟩ ?_
 intro a1 w1 τ1 st1 f1
 obtain ⟨b1x2, e2⟩ : ∃ b, get a1 2 = b := ⟨_, rfl⟩
 obtain ⟨b1x3, e3⟩ : ∃ b, get a1 3 = b := ⟨_, rfl⟩
 have e4 : get a1 4 = (.bool (false)) := f1.v 2 rfl
 have r0 : boxR 25 [(.int .i64 (t.k)), (.string (t.ch)), (.bool (t.ng)), t.rv.v, (.int .i64 (t.mn)), (.int .i64 (t.mx)), (.bool (t.lz)), t.kv.v] (τ1 0) b1x2 w1 := f1.rb 0 e2 rfl
 have r1 : boxR 25 [(.int .i64 (u.k)), (.string (u.ch)), (.bool (u.ng)), u.rv.v, (.int .i64 (u.mn)), (.int .i64 (u.mx)), (.bool (u.lz)), u.kv.v] (τ1 1) b1x3 w1 := f1.rb 1 e3 rfl
 clear f1
 show Code.wp _ _ _ a1 w1
 refine wp_seq ?_
 refine wp_seq ?_
 refine region_St (bf := [0, 1, 3, 7, 15, 31, 63, 127]) (sp := [det _ 5 _, det _ 6 _, det _ 7 _, det _ 8 _, gdet _ 9 _ _, gdet _ 10 _ _, gdet _ 11 _ _, det _ 12 _]) [ib r0, ib r1] mixed st1 (by kernel_rfl) ⟨r0, r1, trivial⟩
  ⟨Ob.d fun c => r_loadN (vs := [(.int .i64 (t.k)), (.string (t.ch)), (.bool (t.ng)), t.rv.v, (.int .i64 (t.mn)), (.int .i64 (t.mx)), (.bool (t.lz)), t.kv.v]) rfl Try.isAgg25 Try.sizeOf25 ((c.p e2).trans r0.ptr) rfl (fun _ _ hj => (c.ib 0 rfl).cell hj),
  Ob.c fun c => ⟨_, _, (e_call2 rfl rfl Try.call9 (c.n 0 rfl) rfl), rx_c t 100 _ (hT.at (st1.ext.trans c.J.ext)) (by omega)⟩,
  Ob.d fun c => r_lss rfl (c.n 1 rfl) rfl,
  Ob.d fun c => r_move rfl (c.n 2 rfl),
  Ob.g 3 false rfl fun c hpc => r_loadN (vs := [(.int .i64 (u.k)), (.string (u.ch)), (.bool (u.ng)), u.rv.v, (.int .i64 (u.mn)), (.int .i64 (u.mx)), (.bool (u.lz)), u.kv.v]) rfl Try.isAgg25 Try.sizeOf25 ((c.p e3).trans r1.ptr) rfl (fun _ _ hj => (c.ib 1 rfl).cell hj),
  Ob.gc 3 false rfl fun c hpc => ⟨_, _, (e_call2 rfl rfl Try.call9 (c.m 4 rfl hpc) rfl), rx_c u 100 _ (hU.at (st1.ext.trans c.J.ext)) (by have hq0 := bn hpc; omega)⟩,
  Ob.g 3 false rfl fun c hpc => r_lss rfl (c.m 5 rfl hpc) rfl,
  Ob.d fun c => r_or rfl (c.n 3 rfl) (fun h => c.m 6 rfl h), trivial⟩ ?_
 intro a2 w2 τ2 st2 f2
 obtain ⟨e2, e3, e4, -⟩ := f2.ks [(2, _), (3, _), (4, _)] ⟨e2, e3, e4, trivial⟩
 have e12 : get a2 12 = (.bool ((decide (rxF t 100 < 0)) || (decide (rxF u 100 < 0)))) := f2.v 7 rfl
 replace r0 := f2.ib 0 rfl
 replace r1 := f2.ib 1 rfl
 clear f2
 show Code.wp _ _ _ a2 w2
 refine wp_cond_split (t := (decide (rxF t 100 < 0)) || (decide (rxF u 100 < 0))) e12 (fun hc1 => ?_) (fun hc1 => ?_)
 · try simp only [Bool.or_eq_true, decide_eq_true_eq] at hc1
   refine wp_seq ?_
   refine region_St (bf := [0, 1]) (sp := [det _ 13 _, det _ 4 _]) [ib r0, ib r1] mixed st2 (by kernel_rfl) ⟨r0, r1, trivial⟩
    ⟨Ob.c fun c => ⟨_, _, (e_call0 rfl rfl Try.call10), awake_c _⟩,
    Ob.d fun c => r_assign rfl (c.n 0 rfl), trivial⟩ ?_
   intro a3 w3 τ3 st3 f3
   obtain ⟨e2, e3, -⟩ := f3.ks [(2, _), (3, _)] ⟨e2, e3, trivial⟩
   have e4 : get a3 4 = (.bool (true)) := f3.v 1 rfl
   replace r0 := f3.ib 0 rfl
   replace r1 := f3.ib 1 rfl
   clear f3
   show Code.wp _ _ _ a3 w3
   refine wp_ret ?_
   repeat (first | with_reducible refine then_ret ?_ | with_reducible refine block_ret ?_)
   refine ret1 (fn := Try.f3) rfl st3.defers e4 ?_
   exact ⟨rfl, st3.ext0⟩
 try simp only [Bool.or_eq_false_iff, decide_eq_false_iff_not, Int.not_lt] at hc1
 refine wp_skip ?_
 show Code.wp _ _ _ a2 w2
 refine wp_seq ?_
 have hP := rx_wt t 100 (by omega)
 have hQ := rx_wt u 100 (by omega)
 refine region_St (bf := [0, 0, 3, 0, 0, 31, 63, 127, 255, 255, 1023, 255, 255, 8191, 16383, 32767, 65535, 131071, 131071, 524287, 1048575, 2097151, 4194303, 4194303, 16777215, 33554431, 67108863, 134217727, 268435455, 536870911]) (sp := [det _ 14 _, det _ 15 _, det _ 16 _, det _ 17 _, det _ 18 _, det _ 19 _, det _ 20 _, det _ 21 _, gdet _ 22 _ _, gdet _ 23 _ _, gdet _ 24 _ _, gdet _ 25 _ _, gdet _ 26 _ _, gdet _ 27 _ _, gdet _ 28 _ _, det _ 29 _, det _ 30 _, gdet _ 31 _ _, gdet _ 32 _ _, gdet _ 33 _ _, det _ 34 _, det _ 35 _, gdet _ 36 _ _, gdet _ 37 _ _, gdet _ 38 _ _, det _ 39 _, det _ 40 _, gdet _ 41 _ _, det _ 42 _, det _ 4 _]) [ib r0, ib r1] mixed st2 (by kernel_rfl) ⟨r0, r1, trivial⟩
  ⟨Ob.d fun c => r_loadN (vs := [(.int .i64 (t.k)), (.string (t.ch)), (.bool (t.ng)), t.rv.v, (.int .i64 (t.mn)), (.int .i64 (t.mx)), (.bool (t.lz)), t.kv.v]) rfl Try.isAgg25 Try.sizeOf25 ((c.p e2).trans r0.ptr) rfl (fun _ _ hj => (c.ib 0 rfl).cell hj),
  Ob.d fun c => r_loadN (vs := [(.int .i64 (u.k)), (.string (u.ch)), (.bool (u.ng)), u.rv.v, (.int .i64 (u.mn)), (.int .i64 (u.mx)), (.bool (u.lz)), u.kv.v]) rfl Try.isAgg25 Try.sizeOf25 ((c.p e3).trans r1.ptr) rfl (fun _ _ hj => (c.ib 1 rfl).cell hj),
  Ob.c fun c => ⟨_, _, (e_call2 rfl rfl Try.call11 (c.n 0 rfl) (c.n 1 rfl)), same_c t u _ (hT.at (st2.ext.trans c.J.ext)) (hU.at (st2.ext.trans c.J.ext))⟩,
  Ob.d fun c => r_loadN (vs := [(.int .i64 (t.k)), (.string (t.ch)), (.bool (t.ng)), t.rv.v, (.int .i64 (t.mn)), (.int .i64 (t.mx)), (.bool (t.lz)), t.kv.v]) rfl Try.isAgg25 Try.sizeOf25 ((c.p e2).trans r0.ptr) rfl (fun _ _ hj => (c.ib 0 rfl).cell hj),
  Ob.d fun c => r_loadN (vs := [(.int .i64 (u.k)), (.string (u.ch)), (.bool (u.ng)), u.rv.v, (.int .i64 (u.mn)), (.int .i64 (u.mx)), (.bool (u.lz)), u.kv.v]) rfl Try.isAgg25 Try.sizeOf25 ((c.p e3).trans r1.ptr) rfl (fun _ _ hj => (c.ib 1 rfl).cell hj),
  Ob.c fun c => ⟨_, _, (e_call2 rfl rfl Try.call12 (c.n 3 rfl) (c.n 4 rfl)), refSame_c t u _ (hT.at (st2.ext.trans c.J.ext)) (hU.at (st2.ext.trans c.J.ext))⟩,
  Ob.d fun c => r_beql rfl Try.underlying4 (c.n 2 rfl) (c.n 5 rfl),
  Ob.d fun c => r_move rfl (c.n 6 rfl),
  Ob.g 7 true rfl fun c hpc => r_loadN (vs := [(.int .i64 (u.k)), (.string (u.ch)), (.bool (u.ng)), u.rv.v, (.int .i64 (u.mn)), (.int .i64 (u.mx)), (.bool (u.lz)), u.kv.v]) rfl Try.isAgg25 Try.sizeOf25 ((c.p e3).trans r1.ptr) rfl (fun _ _ hj => (c.ib 1 rfl).cell hj),
  Ob.g 7 true rfl fun c hpc => r_loadN (vs := [(.int .i64 (t.k)), (.string (t.ch)), (.bool (t.ng)), t.rv.v, (.int .i64 (t.mn)), (.int .i64 (t.mx)), (.bool (t.lz)), t.kv.v]) rfl Try.isAgg25 Try.sizeOf25 ((c.p e2).trans r0.ptr) rfl (fun _ _ hj => (c.ib 0 rfl).cell hj),
  Ob.gc 7 true rfl fun c hpc => ⟨_, _, (e_call2 rfl rfl Try.call11 (c.m 8 rfl hpc) (c.m 9 rfl hpc)), same_c u t _ (hU.at (st2.ext.trans c.J.ext)) (hT.at (st2.ext.trans c.J.ext))⟩,
  Ob.g 7 true rfl fun c hpc => r_loadN (vs := [(.int .i64 (t.k)), (.string (t.ch)), (.bool (t.ng)), t.rv.v, (.int .i64 (t.mn)), (.int .i64 (t.mx)), (.bool (t.lz)), t.kv.v]) rfl Try.isAgg25 Try.sizeOf25 ((c.p e2).trans r0.ptr) rfl (fun _ _ hj => (c.ib 0 rfl).cell hj),
  Ob.g 7 true rfl fun c hpc => r_loadN (vs := [(.int .i64 (u.k)), (.string (u.ch)), (.bool (u.ng)), u.rv.v, (.int .i64 (u.mn)), (.int .i64 (u.mx)), (.bool (u.lz)), u.kv.v]) rfl Try.isAgg25 Try.sizeOf25 ((c.p e3).trans r1.ptr) rfl (fun _ _ hj => (c.ib 1 rfl).cell hj),
  Ob.gc 7 true rfl fun c hpc => ⟨_, _, (e_call2 rfl rfl Try.call11 (c.m 11 rfl hpc) (c.m 12 rfl hpc)), same_c t u _ (hT.at (st2.ext.trans c.J.ext)) (hU.at (st2.ext.trans c.J.ext))⟩,
  Ob.g 7 true rfl fun c hpc => r_beql rfl Try.underlying4 (c.m 10 rfl hpc) (c.m 13 rfl hpc),
  Ob.d fun c => r_and rfl (c.n 7 rfl) (fun h => c.m 14 rfl h),
  Ob.d fun c => r_move rfl (c.n 15 rfl),
  Ob.g 16 true rfl fun c hpc => r_loadN (vs := [(.int .i64 (t.k)), (.string (t.ch)), (.bool (t.ng)), t.rv.v, (.int .i64 (t.mn)), (.int .i64 (t.mx)), (.bool (t.lz)), t.kv.v]) rfl Try.isAgg25 Try.sizeOf25 ((c.p e2).trans r0.ptr) rfl (fun _ _ hj => (c.ib 0 rfl).cell hj),
  Ob.g 16 true rfl fun c hpc => r_loadN (vs := [(.int .i64 (t.k)), (.string (t.ch)), (.bool (t.ng)), t.rv.v, (.int .i64 (t.mn)), (.int .i64 (t.mx)), (.bool (t.lz)), t.kv.v]) rfl Try.isAgg25 Try.sizeOf25 ((c.p e2).trans r0.ptr) rfl (fun _ _ hj => (c.ib 0 rfl).cell hj),
  Ob.gc 16 true rfl fun c hpc => ⟨_, _, (e_call2 rfl rfl Try.call11 (c.m 17 rfl hpc) (c.m 18 rfl hpc)), same_c t t _ (hT.at (st2.ext.trans c.J.ext)) (hT.at (st2.ext.trans c.J.ext))⟩,
  Ob.d fun c => r_and rfl (c.n 16 rfl) (fun h => c.m 19 rfl h),
  Ob.d fun c => r_move rfl (c.n 20 rfl),
  Ob.g 21 true rfl fun c hpc => r_loadN (vs := [(.int .i64 (u.k)), (.string (u.ch)), (.bool (u.ng)), u.rv.v, (.int .i64 (u.mn)), (.int .i64 (u.mx)), (.bool (u.lz)), u.kv.v]) rfl Try.isAgg25 Try.sizeOf25 ((c.p e3).trans r1.ptr) rfl (fun _ _ hj => (c.ib 1 rfl).cell hj),
  Ob.g 21 true rfl fun c hpc => r_loadN (vs := [(.int .i64 (u.k)), (.string (u.ch)), (.bool (u.ng)), u.rv.v, (.int .i64 (u.mn)), (.int .i64 (u.mx)), (.bool (u.lz)), u.kv.v]) rfl Try.isAgg25 Try.sizeOf25 ((c.p e3).trans r1.ptr) rfl (fun _ _ hj => (c.ib 1 rfl).cell hj),
  Ob.gc 21 true rfl fun c hpc => ⟨_, _, (e_call2 rfl rfl Try.call11 (c.m 22 rfl hpc) (c.m 23 rfl hpc)), same_c u u _ (hU.at (st2.ext.trans c.J.ext)) (hU.at (st2.ext.trans c.J.ext))⟩,
  Ob.d fun c => r_and rfl (c.n 21 rfl) (fun h => c.m 24 rfl h),
  Ob.d fun c => r_move rfl (c.n 25 rfl),
  Ob.gc 26 true rfl fun c hpc => ⟨_, _, (e_call0 rfl rfl Try.call10), awake_c _⟩,
  Ob.d fun c => r_and rfl (c.n 26 rfl) (fun h => c.m 27 rfl h),
  Ob.d fun c => r_assign rfl (c.n 28 rfl), trivial⟩ ?_
 intro a4 w4 τ4 st4 f4
 have e4 : get a4 4 = (.bool ((((((sameF t u) == (sameF t u)) && ((sameF u t) == (sameF t u))) && (sameF t t)) && (sameF u u)) && true)) := f4.v 29 rfl
 clear f4
 show Code.wp _ _ _ a4 w4
 refine wp_ret ?_
 repeat (first | with_reducible refine then_ret ?_ | with_reducible refine block_ret ?_)
 refine ret1 (fn := Try.f3) rfl st4.defers e4 ?_
 exact ⟨congrArg _ (congrArg _ (show ((((((sameF t u) == (sameF t u)) && ((sameF u t) == (sameF t u))) && (sameF t t)) && (sameF u u)) && true) = true from by rw [sameF_comm u t, sameF_self, sameF_self]; simp)), st4.ext0⟩

set_option maxRecDepth 100000 in
set_option maxHeartbeats 4000000 in
theorem treeTells_c (t : Tr) (w : World) (hT : TrS w t) : Calls Try.prog 7 #[(.agg #[(.int .i64 (t.k)), (.string (t.ch)), (.bool (t.ng)), t.rv.v, (.int .i64 (t.mn)), (.int .i64 (t.mx)), (.bool (t.lz)), t.kv.v])] w (fun e w' => e = .returned (.bool (true)) ∧ Ext none' w w') := by
 refine enter (n := 36) Try.func7 rfl rfl (Nat.le_of_ble_eq_true rfl) ?_
 intro a0 τ0 ha st0
 have e0 : get a0 0 = (.agg #[(.int .i64 (t.k)), (.string (t.ch)), (.bool (t.ng)), t.rv.v, (.int .i64 (t.mn)), (.int .i64 (t.mx)), (.bool (t.lz)), t.kv.v]) := ha 0 _ rfl
 clear ha
 refine wp_seq ?_
 refine region_St (bf := [0, 0]) (sp := [box _ _ 0 1 [(.int .i64 (t.k)), (.string (t.ch)), (.bool (t.ng)), t.rv.v, (.int .i64 (t.mn)), (.int .i64 (t.mx)), (.bool (t.lz)), t.kv.v], det _ 2 _]) [] mixed st0 (by kernel_rfl) trivial
  ⟨Ob.box (v := (.agg #[(.int .i64 (t.k)), (.string (t.ch)), (.bool (t.ng)), t.rv.v, (.int .i64 (t.mn)), (.int .i64 (t.mx)), (.bool (t.lz)), t.kv.v])) rfl rfl rfl rfl rfl (fun _ _ _ _ c => (c.p e0)),
  Ob.d fun c => r_assign rfl rfl, trivial⟩ ?_
 intro a1 w1 τ1 st1 f1
 obtain ⟨b1x1, e1⟩ : ∃ b, get a1 1 = b := ⟨_, rfl⟩
 have e2 : get a1 2 = (.bool (false)) := f1.v 1 rfl
 have r0 : boxR 25 [(.int .i64 (t.k)), (.string (t.ch)), (.bool (t.ng)), t.rv.v, (.int .i64 (t.mn)), (.int .i64 (t.mx)), (.bool (t.lz)), t.kv.v] (τ1 0) b1x1 w1 := f1.rb 0 e1 rfl
 clear f1
 show Code.wp _ _ _ a1 w1
 refine wp_seq ?_
 refine wp_seq ?_
 refine region_St (bf := [0, 1, 3]) (sp := [det _ 3 _, det _ 4 _, det _ 5 _]) [ib r0] mixed st1 (by kernel_rfl) ⟨r0, trivial⟩
  ⟨Ob.d fun c => r_loadN (vs := [(.int .i64 (t.k)), (.string (t.ch)), (.bool (t.ng)), t.rv.v, (.int .i64 (t.mn)), (.int .i64 (t.mx)), (.bool (t.lz)), t.kv.v]) rfl Try.isAgg25 Try.sizeOf25 ((c.p e1).trans r0.ptr) rfl (fun _ _ hj => (c.ib 0 rfl).cell hj),
  Ob.c fun c => ⟨_, _, (e_call2 rfl rfl Try.call9 (c.n 0 rfl) rfl), rx_c t 120 _ (hT.at (st1.ext.trans c.J.ext)) (by omega)⟩,
  Ob.d fun c => r_lss rfl (c.n 1 rfl) rfl, trivial⟩ ?_
 intro a2 w2 τ2 st2 f2
 obtain ⟨e1, e2, -⟩ := f2.ks [(1, _), (2, _)] ⟨e1, e2, trivial⟩
 have e5 : get a2 5 = (.bool (decide (rxF t 120 < 0))) := f2.v 2 rfl
 replace r0 := f2.ib 0 rfl
 clear f2
 show Code.wp _ _ _ a2 w2
 refine wp_cond_split (t := decide (rxF t 120 < 0)) e5 (fun hc1 => ?_) (fun hc1 => ?_)
 · try simp only [decide_eq_true_eq] at hc1
   refine wp_seq ?_
   refine region_St (bf := [0, 1]) (sp := [det _ 6 _, det _ 2 _]) [ib r0] mixed st2 (by kernel_rfl) ⟨r0, trivial⟩
    ⟨Ob.c fun c => ⟨_, _, (e_call0 rfl rfl Try.call10), awake_c _⟩,
    Ob.d fun c => r_assign rfl (c.n 0 rfl), trivial⟩ ?_
   intro a3 w3 τ3 st3 f3
   obtain ⟨e1, -⟩ := f3.ks [(1, _)] ⟨e1, trivial⟩
   have e2 : get a3 2 = (.bool (true)) := f3.v 1 rfl
   replace r0 := f3.ib 0 rfl
   clear f3
   show Code.wp _ _ _ a3 w3
   refine wp_ret ?_
   repeat (first | with_reducible refine then_ret ?_ | with_reducible refine block_ret ?_)
   refine ret1 (fn := Try.f7) rfl st3.defers e2 ?_
   exact ⟨rfl, st3.ext0⟩
 try simp only [decide_eq_false_iff_not, Int.not_lt] at hc1
 refine wp_skip ?_
 show Code.wp _ _ _ a2 w2
 refine wp_seq ?_
 have hP := rx_wt t 120 (by omega)
 have hb := wtF_bound t
 refine region_St (bf := [0, 1, 0, 7, 15, 31, 63, 127, 63, 511, 1023, 2047, 4095, 8191, 16383, 8191, 65535, 131071, 262143, 524287, 1048575, 2097151, 1048575, 8388607, 16777215, 33554431, 67108863, 134217727, 268435455, 536870911]) (sp := [det _ 7 _, det _ 8 _, det _ 9 _, det _ 10 _, det _ 11 _, det _ 12 _, gdet _ 13 _ _, gdet _ 14 _ _, gdet _ 15 _ _, gdet _ 16 _ _, gdet _ 17 _ _, det _ 18 _, det _ 19 _, gdet _ 20 _ _, gdet _ 21 _ _, gdet _ 22 _ _, gdet _ 23 _ _, gdet _ 24 _ _, det _ 25 _, det _ 26 _, gdet _ 27 _ _, gdet _ 28 _ _, gdet _ 29 _ _, gdet _ 30 _ _, gdet _ 31 _ _, det _ 32 _, det _ 33 _, gdet _ 34 _ _, det _ 35 _, det _ 2 _]) [ib r0] mixed st2 (by kernel_rfl) ⟨r0, trivial⟩
  ⟨Ob.d fun c => r_loadN (vs := [(.int .i64 (t.k)), (.string (t.ch)), (.bool (t.ng)), t.rv.v, (.int .i64 (t.mn)), (.int .i64 (t.mx)), (.bool (t.lz)), t.kv.v]) rfl Try.isAgg25 Try.sizeOf25 ((c.p e1).trans r0.ptr) rfl (fun _ _ hj => (c.ib 0 rfl).cell hj),
  Ob.c fun c => ⟨_, _, (e_call1 rfl rfl Try.call20 (c.n 0 rfl)), may_c t _ (hT.at (st2.ext.trans c.J.ext)) (by omega)⟩,
  Ob.d fun c => r_loadN (vs := [(.int .i64 (t.k)), (.string (t.ch)), (.bool (t.ng)), t.rv.v, (.int .i64 (t.mn)), (.int .i64 (t.mx)), (.bool (t.lz)), t.kv.v]) rfl Try.isAgg25 Try.sizeOf25 ((c.p e1).trans r0.ptr) rfl (fun _ _ hj => (c.ib 0 rfl).cell hj),
  Ob.c fun c => ⟨_, _, (e_call1 rfl rfl Try.call24 (c.n 2 rfl)), refMay_c t _ (hT.at (st2.ext.trans c.J.ext)) (by omega)⟩,
  Ob.d fun c => r_beql rfl Try.underlying4 (c.n 1 rfl) (c.n 3 rfl),
  Ob.d fun c => r_move rfl (c.n 4 rfl),
  Ob.g 5 true rfl fun c hpc => r_loadN (vs := [(.int .i64 (t.k)), (.string (t.ch)), (.bool (t.ng)), t.rv.v, (.int .i64 (t.mn)), (.int .i64 (t.mx)), (.bool (t.lz)), t.kv.v]) rfl Try.isAgg25 Try.sizeOf25 ((c.p e1).trans r0.ptr) rfl (fun _ _ hj => (c.ib 0 rfl).cell hj),
  Ob.gc 5 true rfl fun c hpc => ⟨_, _, (e_call1 rfl rfl Try.call19 (c.m 6 rfl hpc)), parts_c t _ (hT.at (st2.ext.trans c.J.ext)) (by have hq0 := hpc; (try simp only [Bool.and_eq_true, Bool.and_eq_false_iff, Bool.not_eq_true', Bool.not_eq_false', beq_iff_eq, decide_eq_true_eq, decide_eq_false_iff_not, Int.not_le] at hq0); omega)⟩,
  Ob.g 5 true rfl fun c hpc => r_loadN (vs := [(.int .i64 (t.k)), (.string (t.ch)), (.bool (t.ng)), t.rv.v, (.int .i64 (t.mn)), (.int .i64 (t.mx)), (.bool (t.lz)), t.kv.v]) rfl Try.isAgg25 Try.sizeOf25 ((c.p e1).trans r0.ptr) rfl (fun _ _ hj => (c.ib 0 rfl).cell hj),
  Ob.gc 5 true rfl fun c hpc => ⟨_, _, (e_call1 rfl rfl Try.call25 (c.m 8 rfl hpc)), refParts_c t _ (hT.at (st2.ext.trans c.J.ext)) (by have hq0 := hpc; (try simp only [Bool.and_eq_true, Bool.and_eq_false_iff, Bool.not_eq_true', Bool.not_eq_false', beq_iff_eq, decide_eq_true_eq, decide_eq_false_iff_not, Int.not_le] at hq0); omega)⟩,
  Ob.g 5 true rfl fun c hpc => r_eql rfl (c.m 7 rfl hpc) (c.m 9 rfl hpc),
  Ob.d fun c => r_and rfl (c.n 5 rfl) (fun h => c.m 10 rfl h),
  Ob.d fun c => r_move rfl (c.n 11 rfl),
  Ob.g 12 true rfl fun c hpc => r_loadN (vs := [(.int .i64 (t.k)), (.string (t.ch)), (.bool (t.ng)), t.rv.v, (.int .i64 (t.mn)), (.int .i64 (t.mx)), (.bool (t.lz)), t.kv.v]) rfl Try.isAgg25 Try.sizeOf25 ((c.p e1).trans r0.ptr) rfl (fun _ _ hj => (c.ib 0 rfl).cell hj),
  Ob.gc 12 true rfl fun c hpc => ⟨_, _, (e_call1 rfl rfl Try.call26 (c.m 13 rfl hpc)), groups_c t _ (hT.at (st2.ext.trans c.J.ext)) (by have hq0 := hpc; (try simp only [Bool.and_eq_true, Bool.and_eq_false_iff, Bool.not_eq_true', Bool.not_eq_false', beq_iff_eq, decide_eq_true_eq, decide_eq_false_iff_not, Int.not_le] at hq0); omega)⟩,
  Ob.g 12 true rfl fun c hpc => r_loadN (vs := [(.int .i64 (t.k)), (.string (t.ch)), (.bool (t.ng)), t.rv.v, (.int .i64 (t.mn)), (.int .i64 (t.mx)), (.bool (t.lz)), t.kv.v]) rfl Try.isAgg25 Try.sizeOf25 ((c.p e1).trans r0.ptr) rfl (fun _ _ hj => (c.ib 0 rfl).cell hj),
  Ob.gc 12 true rfl fun c hpc => ⟨_, _, (e_call1 rfl rfl Try.call27 (c.m 15 rfl hpc)), refGroups_c t _ (hT.at (st2.ext.trans c.J.ext)) (by have hq0 := hpc; (try simp only [Bool.and_eq_true, Bool.and_eq_false_iff, Bool.not_eq_true', Bool.not_eq_false', beq_iff_eq, decide_eq_true_eq, decide_eq_false_iff_not, Int.not_le] at hq0); omega)⟩,
  Ob.g 12 true rfl fun c hpc => r_eql rfl (c.m 14 rfl hpc) (c.m 16 rfl hpc),
  Ob.d fun c => r_and rfl (c.n 12 rfl) (fun h => c.m 17 rfl h),
  Ob.d fun c => r_move rfl (c.n 18 rfl),
  Ob.g 19 true rfl fun c hpc => r_loadN (vs := [(.int .i64 (t.k)), (.string (t.ch)), (.bool (t.ng)), t.rv.v, (.int .i64 (t.mn)), (.int .i64 (t.mx)), (.bool (t.lz)), t.kv.v]) rfl Try.isAgg25 Try.sizeOf25 ((c.p e1).trans r0.ptr) rfl (fun _ _ hj => (c.ib 0 rfl).cell hj),
  Ob.gc 19 true rfl fun c hpc => ⟨_, _, (e_call1 rfl rfl Try.call23 (c.m 20 rfl hpc)), deep_c t _ (hT.at (st2.ext.trans c.J.ext)) (by have hq0 := hpc; (try simp only [Bool.and_eq_true, Bool.and_eq_false_iff, Bool.not_eq_true', Bool.not_eq_false', beq_iff_eq, decide_eq_true_eq, decide_eq_false_iff_not, Int.not_le] at hq0); omega)⟩,
  Ob.g 19 true rfl fun c hpc => r_loadN (vs := [(.int .i64 (t.k)), (.string (t.ch)), (.bool (t.ng)), t.rv.v, (.int .i64 (t.mn)), (.int .i64 (t.mx)), (.bool (t.lz)), t.kv.v]) rfl Try.isAgg25 Try.sizeOf25 ((c.p e1).trans r0.ptr) rfl (fun _ _ hj => (c.ib 0 rfl).cell hj),
  Ob.gc 19 true rfl fun c hpc => ⟨_, _, (e_call1 rfl rfl Try.call28 (c.m 22 rfl hpc)), refDeep_c t _ (hT.at (st2.ext.trans c.J.ext)) (by have hq0 := hpc; (try simp only [Bool.and_eq_true, Bool.and_eq_false_iff, Bool.not_eq_true', Bool.not_eq_false', beq_iff_eq, decide_eq_true_eq, decide_eq_false_iff_not, Int.not_le] at hq0); omega)⟩,
  Ob.g 19 true rfl fun c hpc => r_eql rfl (c.m 21 rfl hpc) (c.m 23 rfl hpc),
  Ob.d fun c => r_and rfl (c.n 19 rfl) (fun h => c.m 24 rfl h),
  Ob.d fun c => r_move rfl (c.n 25 rfl),
  Ob.gc 26 true rfl fun c hpc => ⟨_, _, (e_call0 rfl rfl Try.call10), awake_c _⟩,
  Ob.d fun c => r_and rfl (c.n 26 rfl) (fun h => c.m 27 rfl h),
  Ob.d fun c => r_assign rfl (c.n 28 rfl), trivial⟩ ?_
 intro a4 w4 τ4 st4 f4
 have e2 : get a4 2 = (.bool (((((((fitsF t 512 16).2) == ((decide (partsF t ≤ 512) && decide (deepF t ≤ 16)) && allF t)) && (decide (partsF t = partsF t))) && (decide (groupsF t = groupsF t))) && (decide (deepF t = deepF t))) && true)) := f4.v 29 rfl
 clear f4
 show Code.wp _ _ _ a4 w4
 refine wp_ret ?_
 repeat (first | with_reducible refine then_ret ?_ | with_reducible refine block_ret ?_)
 refine ret1 (fn := Try.f7) rfl st4.defers e2 ?_
 exact ⟨congrArg _ (congrArg _ (show (((((((fitsF t 512 16).2) == ((decide (partsF t ≤ 512) && decide (deepF t ≤ 16)) && allF t)) && (decide (partsF t = partsF t))) && (decide (groupsF t = groupsF t))) && (decide (deepF t = deepF t))) && true) = true from by rw [may_law]; unfold mayF; simp)), st4.ext0⟩

theorem wt_sl {xs : List Tr} {v : Sv} (h : 0 ≤ rxF (nodeT 0 ⟨#[]⟩ false 0 0 false v xs) 100) : sumL (xs.map wtF) ≤ 100 := by
  have := rx_wt _ 100 h
  rw [wt_node] at this
  have h2 : ((⟨#[]⟩ : ByteArray).size : Int) = 0 := rfl
  omega

set_option maxRecDepth 100000 in
set_option maxHeartbeats 4000000 in
theorem seqTells_c (v : Sv) (xs : List Tr) (w : World) (hS : TlS w v.v xs) : Calls Try.prog 4 #[v.v] w (fun e w' => e = .returned (.bool (true)) ∧ Ext none' w w') := by
 refine enter (n := 28) Try.func4 rfl rfl (Nat.le_of_ble_eq_true rfl) ?_
 intro a0 τ0 ha st0
 have e0 : get a0 0 = v.v := ha 0 _ rfl
 clear ha
 have hle := hS.sl.le
 have r9 : Fz (zTl (Gn (fun g => g < w.heap.size) w) xs) τ0 w := TrT.inzs hS.all st0
 refine wp_seq ?_
 refine region_St (bf := [0]) (sp := [det _ 2 _]) [Ini.any _, Ini.any _, Ini.any _, Ini.any _, Ini.any _, Ini.any _, Ini.any _, Ini.any _, Ini.any _, iz r9] mixed st0 (by kernel_rfl) ⟨trivial, trivial, trivial, trivial, trivial, trivial, trivial, trivial, trivial, r9, trivial⟩
  ⟨Ob.d fun c => r_assign rfl rfl, trivial⟩ ?_
 intro a1 w1 τ1 st1 f1
 obtain ⟨e0, -⟩ := f1.ks [(0, _)] ⟨e0, trivial⟩
 have e2 : get a1 2 = (.bool (false)) := f1.v 0 rfl
 replace r9 := f1.iz 9 rfl
 clear f1
 show Code.wp _ _ _ a1 w1
 refine wp_seq ?_
 refine wp_seq ?_
 refine region_St (bf := [0, 1, 3, 7, 15, 31, 63, 127, 255]) (sp := [det _ 3 _, det _ 4 _, det _ 5 _, det _ 6 _, det _ 7 _, gdet _ 8 _ _, gdet _ 9 _ _, gdet _ 10 _ _, det _ 11 _]) [Ini.any _, Ini.any _, Ini.any _, Ini.any _, Ini.any _, Ini.any _, Ini.any _, Ini.any _, Ini.any _, iz r9] mixed st1 (by kernel_rfl) ⟨trivial, trivial, trivial, trivial, trivial, trivial, trivial, trivial, trivial, r9, trivial⟩
  ⟨Ob.d fun c => r_move rfl (c.p e0),
  Ob.d fun c => r_build (cells := #[(.int .i64 (0)), (.string ((⟨#[]⟩ : ByteArray))), (.bool (false)), (.slice none 0 0), (.int .i64 (0)), (.int .i64 (0)), (.bool (false)), v.v]) rfl Try.underlying25 Try.zeroValue25 (pl := #[(0, 1), (1, 1), (2, 1), (3, 1), (4, 1), (5, 1), (6, 1), (7, 1)]) (fun w_ => by simp [Try.sizeOf22, Try.sizeOf23, Try.sizeOf3, Try.sizeOf4, Try.sizeOf9]) (fill1 (c.n 0 rfl) rfl),
  Ob.c fun c => ⟨_, _, (e_call2 rfl rfl Try.call9 (c.n 1 rfl) rfl), rx_c (nodeT 0 (⟨#[]⟩ : ByteArray) false 0 0 false v xs) 100 _ (nodeS (hS.at (st1.ext.trans c.J.ext))) (by omega)⟩,
  Ob.d fun c => r_lss rfl (c.n 2 rfl) rfl,
  Ob.d fun c => r_move rfl (c.n 3 rfl),
  Ob.g 4 false rfl fun c hpc => r_move rfl (c.p e0),
  Ob.g 4 false rfl fun c hpc => r_len rfl Try.underlying23 (c.m 5 rfl hpc) (hS.at st1.ext).sl.sl,
  Ob.g 4 false rfl fun c hpc => r_gtr rfl (c.m 6 rfl hpc) rfl,
  Ob.d fun c => r_or rfl (c.n 4 rfl) (fun h => c.m 7 rfl h), trivial⟩ ?_
 intro a2 w2 τ2 st2 f2
 obtain ⟨e0, e2, -⟩ := f2.ks [(0, _), (2, _)] ⟨e0, e2, trivial⟩
 have e11 : get a2 11 = (.bool ((decide (rxF (nodeT 0 (⟨#[]⟩ : ByteArray) false 0 0 false v xs) 100 < 0)) || (decide (10 < (xs.length : Int))))) := f2.v 8 rfl
 replace r9 := f2.iz 9 rfl
 clear f2
 show Code.wp _ _ _ a2 w2
 refine wp_cond_split (t := (decide (rxF (nodeT 0 (⟨#[]⟩ : ByteArray) false 0 0 false v xs) 100 < 0)) || (decide (10 < (xs.length : Int)))) e11 (fun hc1 => ?_) (fun hc1 => ?_)
 · try simp only [Bool.or_eq_true, decide_eq_true_eq] at hc1
   refine wp_seq ?_
   refine region_St (bf := [0, 1]) (sp := [det _ 12 _, det _ 2 _]) [Ini.any _, Ini.any _, Ini.any _, Ini.any _, Ini.any _, Ini.any _, Ini.any _, Ini.any _, Ini.any _, iz r9] mixed st2 (by kernel_rfl) ⟨trivial, trivial, trivial, trivial, trivial, trivial, trivial, trivial, trivial, r9, trivial⟩
    ⟨Ob.c fun c => ⟨_, _, (e_call0 rfl rfl Try.call10), awake_c _⟩,
    Ob.d fun c => r_assign rfl (c.n 0 rfl), trivial⟩ ?_
   intro a3 w3 τ3 st3 f3
   obtain ⟨e0, -⟩ := f3.ks [(0, _)] ⟨e0, trivial⟩
   have e2 : get a3 2 = (.bool (true)) := f3.v 1 rfl
   replace r9 := f3.iz 9 rfl
   clear f3
   show Code.wp _ _ _ a3 w3
   refine wp_ret ?_
   repeat (first | with_reducible refine then_ret ?_ | with_reducible refine block_ret ?_)
   refine ret1 (fn := Try.f4) rfl st3.defers e2 ?_
   exact ⟨rfl, st3.ext0⟩
 try simp only [Bool.or_eq_false_iff, decide_eq_false_iff_not, Int.not_lt] at hc1
 refine wp_skip ?_
 show Code.wp _ _ _ a2 w2
 refine wp_seq ?_
 have hP := wt_sl (v := v) (xs := xs) (by omega)
 refine region_of_ops ?_
 refine ops_cut 2 (by kernel_rfl) ?_
 refine ops_St (bf := [0, 1]) (sp := [det _ 13 _, zdet _ 14 (fun b : Tr => b.v) (fun b : Tr => er b = seqF (xs.map er)) (fun b : Tr => zTr (Gn (fun g => g < w.heap.size) w) b)]) [Ini.any _, Ini.any _, Ini.any _, Ini.any _, Ini.any _, Ini.any _, Ini.any _, Ini.any _, Ini.any _, iz r9] st2 (by kernel_rfl) ⟨trivial, trivial, trivial, trivial, trivial, trivial, trivial, trivial, trivial, r9, trivial⟩
  ⟨Ob.d fun c => r_move rfl (c.p e0),
  Ob.zc (f := fun b : Tr => b.v) (Ψ := fun b : Tr => er b = seqF (xs.map er)) (Φ := fun b : Tr => zTr (Gn (fun g => g < w.heap.size) w) b) fun {_ a_ _ _} c => ⟨_, _, (e_call1 rfl rfl Try.call13 (c.n 0 rfl)), (seq_c v.v xs _ (zl (c.iz 9 rfl) (hS.at (st2.ext.trans c.J.ext)).sl) (by omega)).mono (fun e w' ⟨t_, he_, hx_, ht_, hq_⟩ => ⟨t_, he_, hx_, hq_, c.tn st2 hx_ ht_⟩)⟩, trivial⟩ ?_
 intro a4 w4 τ4 st4 f4
 obtain ⟨e0, e2, -⟩ := f4.ks [(0, _), (2, _)] ⟨e0, e2, trivial⟩
 obtain ⟨t1_, e14, hqt1_, hz4⟩ := f4.zd 1 rfl
 have e14 : get a4 14 = (.agg #[(.int .i64 (t1_.k)), (.string (t1_.ch)), (.bool (t1_.ng)), t1_.rv.v, (.int .i64 (t1_.mn)), (.int .i64 (t1_.mx)), (.bool (t1_.lz)), t1_.kv.v]) := e14
 have hwt1_ := wt_seqb hqt1_
 replace r9 := f4.iz 9 rfl
 have r0 : Fz (zTr (Gn (fun g => g < w.heap.size) w) t1_) τ4 w4 := hz4
 clear f4
 refine only_mk ?_
 refine ops_cut 2 (by kernel_rfl) ?_
 refine ops_St (bf := [0, 1]) (sp := [det _ 15 _, zdet _ 16 (fun b : Tr => b.v) (fun b : Tr => er b = seqF (xs.map er)) (fun b : Tr => zTr (Gn (fun g => g < w.heap.size) w) b)]) [iz r0, Ini.any _, Ini.any _, Ini.any _, Ini.any _, Ini.any _, Ini.any _, Ini.any _, Ini.any _, iz r9] st4 (by kernel_rfl) ⟨r0, trivial, trivial, trivial, trivial, trivial, trivial, trivial, trivial, r9, trivial⟩
  ⟨Ob.d fun c => r_move rfl (c.p e0),
  Ob.zc (f := fun b : Tr => b.v) (Ψ := fun b : Tr => er b = seqF (xs.map er)) (Φ := fun b : Tr => zTr (Gn (fun g => g < w.heap.size) w) b) fun {_ a_ _ _} c => ⟨_, _, (e_call1 rfl rfl Try.call14 (c.n 0 rfl)), (refSeq_c _ v.v xs _ (zl (c.iz 9 rfl) (hS.at (st4.ext.trans c.J.ext)).sl).sl (c.iz 9 rfl) (by omega)).mono (fun e w' ⟨t_, he_, hx_, ht_, hq_⟩ => ⟨t_, he_, hx_, hq_, c.tz st4 hx_ ht_⟩)⟩, trivial⟩ ?_
 intro a5 w5 τ5 st5 f5
 obtain ⟨e0, e2, e14, -⟩ := f5.ks [(0, _), (2, _), (14, _)] ⟨e0, e2, e14, trivial⟩
 obtain ⟨t2_, e16, hqt2_, hz5⟩ := f5.zd 1 rfl
 have e16 : get a5 16 = (.agg #[(.int .i64 (t2_.k)), (.string (t2_.ch)), (.bool (t2_.ng)), t2_.rv.v, (.int .i64 (t2_.mn)), (.int .i64 (t2_.mx)), (.bool (t2_.lz)), t2_.kv.v]) := e16
 have hwt2_ := wt_seqb hqt2_
 replace r0 := f5.iz 0 rfl
 replace r9 := f5.iz 9 rfl
 have r1 : Fz (zTr (Gn (fun g => g < w.heap.size) w) t2_) τ5 w5 := hz5
 clear f5
 refine only_mk ?_
 refine ops_St (bf := [0, 1, 3, 7, 15, 31, 63, 127, 255, 511, 1023, 2047]) (sp := [det _ 17 _, det _ 18 _, gdet _ 19 _ _, gzdet _ 20 ((sameF t1_ t2_) = true) (fun b : Tr => b.v) (fun b : Tr => er b = altF (xs.map er)) (fun b : Tr => zTr (Gn (fun g => g < w.heap.size) w) b), gdet _ 21 _ _, gzdet _ 22 ((sameF t1_ t2_) = true) (fun b : Tr => b.v) (fun b : Tr => er b = altF (xs.map er)) (fun b : Tr => zTr (Gn (fun g => g < w.heap.size) w) b), gdet _ 23 _ _, det _ 24 _, det _ 25 _, gdet _ 26 _ _, det _ 27 _, det _ 2 _]) [iz r0, iz r1, Ini.any _, Ini.any _, Ini.any _, Ini.any _, Ini.any _, Ini.any _, Ini.any _, iz r9] st5 (by kernel_rfl) ⟨r0, r1, trivial, trivial, trivial, trivial, trivial, trivial, trivial, r9, trivial⟩
  ⟨Ob.c fun c => ⟨_, _, (e_call2 rfl rfl Try.call11 (c.p e14) (c.p e16)), same_c t1_ t2_ _ (zs (c.iz 0 rfl)) (zs (c.iz 1 rfl))⟩,
  Ob.d fun c => r_move rfl (c.n 0 rfl),
  Ob.g 1 true rfl fun c hpc => r_move rfl (c.p e0),
  Ob.gz (f := fun b : Tr => b.v) (Ψ := fun b : Tr => er b = altF (xs.map er)) (Φ := fun b : Tr => zTr (Gn (fun g => g < w.heap.size) w) b) (gd1 1 true) fun {_ a_ _ _} c hpc => ⟨_, _, (e_call1 rfl rfl Try.call15 (c.m 2 rfl hpc)), (alt_c v.v xs _ (zl (c.iz 9 rfl) (hS.at (st5.ext.trans c.J.ext)).sl) (by have hq0 := hpc; omega)).mono (fun e w' ⟨t_, he_, hx_, ht_, hq_⟩ => ⟨t_, he_, hx_, hq_, c.tn st5 hx_ ht_⟩)⟩,
  Ob.g 1 true rfl fun c hpc => r_move rfl (c.p e0),
  Ob.gz (f := fun b : Tr => b.v) (Ψ := fun b : Tr => er b = altF (xs.map er)) (Φ := fun b : Tr => zTr (Gn (fun g => g < w.heap.size) w) b) (gd1 1 true) fun {_ a_ _ _} c hpc => ⟨_, _, (e_call1 rfl rfl Try.call16 (c.m 4 rfl hpc)), (refAlt_c _ v.v xs _ (zl (c.iz 9 rfl) (hS.at (st5.ext.trans c.J.ext)).sl).sl (c.iz 9 rfl) (by have hq0 := hpc; omega)).mono (fun e w' ⟨t_, he_, hx_, ht_, hq_⟩ => ⟨t_, he_, hx_, hq_, c.tz st5 hx_ ht_⟩)⟩,
  Ob.gc 1 true rfl fun c hpc => by obtain ⟨t3_, hv3, hqt3_, hzt3_⟩ := c.zd 3 rfl hpc; have hwt3_ := wt_altb hqt3_; obtain ⟨t4_, hv5, hqt4_, hzt4_⟩ := c.zd 5 rfl hpc; have hwt4_ := wt_altb hqt4_; exact ⟨_, _, (e_call2 rfl rfl Try.call11 hv3 hv5), Calls.isV (same_c t3_ t4_ _ (zs hzt3_) (zs hzt4_)) (congrArg _ (show (sameF t3_ t4_) = (sameF (altF (xs.map er)) (altF (xs.map er))) from by first | (rw [← hqt3_, ← hqt4_]; simp only [sameF_er2]) | (rw [← sameF_er2, hqt3_, hqt4_])))⟩,
  Ob.d fun c => r_and rfl (c.n 1 rfl) (fun h => c.m 6 rfl h),
  Ob.d fun c => r_move rfl (c.n 7 rfl),
  Ob.gc 8 true rfl fun c hpc => ⟨_, _, (e_call0 rfl rfl Try.call10), awake_c _⟩,
  Ob.d fun c => r_and rfl (c.n 8 rfl) (fun h => c.m 9 rfl h),
  Ob.d fun c => r_assign rfl (c.n 10 rfl), trivial⟩ ?_
 intro a6 w6 τ6 st6 f6
 have e2 : get a6 2 = (.bool (((sameF t1_ t2_) && (sameF (altF (xs.map er)) (altF (xs.map er)))) && true)) := f6.v 11 rfl
 replace r0 := f6.iz 0 rfl
 replace r1 := f6.iz 1 rfl
 replace r9 := f6.iz 9 rfl
 clear f6
 show Code.wp _ _ _ a6 w6
 refine wp_ret ?_
 repeat (first | with_reducible refine then_ret ?_ | with_reducible refine block_ret ?_)
 refine ret1 (fn := Try.f4) rfl st6.defers e2 ?_
 exact ⟨congrArg _ (congrArg _ (show (((sameF t1_ t2_) && (sameF (altF (xs.map er)) (altF (xs.map er)))) && true) = true from by rw [sameF_iff.2 (hqt1_.trans hqt2_.symm)]; simp [sameF_self])), st6.ext0⟩
end B
end Go.Proofs.Ytocmchlhbniloaa
