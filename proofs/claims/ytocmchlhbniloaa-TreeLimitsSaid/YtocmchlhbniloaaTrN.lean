/-
  Walks, printed by a program (gen.py): TrN.
-/
import Derived.Test.YtocmchlhbniloaaTrM
set_option linter.unusedSimpArgs false
set_option linter.unusedVariables false
namespace Go.Proofs.Ytocmchlhbniloaa
namespace B
open Go.RowKit
open Srt
theorem some_cv (v u : Value) (ts : List Tr) (ks : List Int) (w : World) (hS : SlT TrE w v ts) (hU : SlT IntE w u ks) : Calls Try.prog 54 #[v, u] w (fun e w' => e = .returned (.bool (ts.any fun x => ks.any fun y => decide (x.k = y))) ∧ Ext none' w w') := by
  obtain ⟨s, rfl⟩ := hU.sl.sv
  exact some_c v s ts ks w hS hU
theorem wt_small {t : Tr} (h : wtF t ≤ 1000000) : Small t.rows := fun r hr => by
  have h1 := rwW_mem hr
  have h2 := wtF_eq t
  have h3 : 0 ≤ sumL (t.kids.map wtF) := sumL_pos fun x hx => by
    obtain ⟨k, hk, rfl⟩ := List.mem_map.1 hx
    have := wtF_pos k; omega
  omega

def someK (t : Tr) (ks : List Int) : Bool := (t.kids).any fun x_ => ks.any fun y_ => decide (x_.k = y_)
def bareT (t : Tr) : Bool := bareF t.ch t.ng t.rows t.mn t.mx t.lz
def fieldsF (t : Tr) : Bool :=
  if t.k = 2 then (bareF (⟨#[]⟩ : ByteArray) t.ng t.rows t.mn t.mx t.lz && decide ((t.kids.length : Int) = 0)) && properB t.ch
  else if t.k = 4 then (bareF t.ch false [] t.mn t.mx t.lz && decide ((t.kids.length : Int) = 0)) && mayRow t.rows
  else if t.k = 7 then ((((bareF t.ch t.ng t.rows 0 0 false && decide ((t.kids.length : Int) = 1)) && repB (nth t.kids 0).k) && decide (0 ≤ t.mn)) && decide (t.mn ≤ 255)) && (decide (t.mx = -1) || (decide (t.mn ≤ t.mx) && decide (t.mx ≤ 255)))
  else if t.k = 0 then (bareT t && !decide ((t.kids.length : Int) = 1)) && !someK t [0, 1]
  else if t.k = 1 then (bareT t && decide (1 < (t.kids.length : Int))) && !someK t [1]
  else if t.k = 5 ∨ t.k = 6 then bareT t && decide ((t.kids.length : Int) = 1)
  else if t.k = 3 ∨ t.k = 8 ∨ t.k = 9 ∨ t.k = 10 ∨ t.k = 11 then bareT t && decide ((t.kids.length : Int) = 0)
  else false

set_option maxRecDepth 100000 in
theorem fields_c (t : Tr) (w : World) (hT : TrS w t) (hP : wtF t ≤ 1000000) : Calls Try.prog 40 #[(.agg #[(.int .i64 (t.k)), (.string (t.ch)), (.bool (t.ng)), t.rv.v, (.int .i64 (t.mn)), (.int .i64 (t.mx)), (.bool (t.lz)), t.kv.v])] w (fun e w' => e = .returned (.bool (fieldsF t)) ∧ Ext none' w w') := by
 refine enter (n := 149) Try.func40 rfl rfl (Nat.le_of_ble_eq_true rfl) ?_
 intro a0 τ0 ha st0
 have e0 : get a0 0 = (.agg #[(.int .i64 (t.k)), (.string (t.ch)), (.bool (t.ng)), t.rv.v, (.int .i64 (t.mn)), (.int .i64 (t.mx)), (.bool (t.lz)), t.kv.v]) := ha 0 _ rfl
 clear ha
 have hle := hT.kids.le
 have hle2 := hT.rows.le
 have hwt := wtF_bound t
 have hsm := wt_small hP
 refine wp_seq ?_
 refine region_St (bf := [0, 0]) (sp := [box _ _ 0 1 [(.int .i64 (t.k)), (.string (t.ch)), (.bool (t.ng)), t.rv.v, (.int .i64 (t.mn)), (.int .i64 (t.mx)), (.bool (t.lz)), t.kv.v], det _ 2 _]) [] mixed st0 (by kernel_rfl) trivial
  ⟨Ob.box (v := (.agg #[(.int .i64 (t.k)), (.string (t.ch)), (.bool (t.ng)), t.rv.v, (.int .i64 (t.mn)), (.int .i64 (t.mx)), (.bool (t.lz)), t.kv.v])) rfl rfl rfl rfl rfl (fun _ _ _ _ c => (c.p e0)),
  Ob.d fun c => r_assign rfl rfl, trivial⟩ ?_
 intro a1 w1 τ1 st1 f1
 obtain ⟨b1x1, e1⟩ : ∃ b, get a1 1 = b := ⟨_, rfl⟩
 have e2 : get a1 2 = (.bool (false)) := f1.v 1 rfl
 have r0 : boxR 25 [(.int .i64 (t.k)), (.string (t.ch)), (.bool (t.ng)), t.rv.v, (.int .i64 (t.mn)), (.int .i64 (t.mx)), (.bool (t.lz)), t.kv.v] (τ1 0) b1x1 w1 := f1.rb 0 e1 rfl
 clear f1
 show Code.wp _ _ _ a1 w1
 refine wp_seq ?_
 refine wp_seq ?_
 refine region_St (bf := [0, 1]) (sp := [det _ 7 _, det _ 8 _]) [ib r0] mixed st1 (by kernel_rfl) ⟨r0, trivial⟩
  ⟨Ob.d fun c => r_fieldAddr rfl Try.underlying25 rfl rfl Try.sizeOf3 ((c.p e1).trans r0.ptr),
  Ob.d fun c => r_load1 rfl Try.isAgg3 (c.n 0 rfl) ((c.ib 0 rfl).cell (j := 0) rfl), trivial⟩ ?_
 intro a2 w2 τ2 st2 f2
 obtain ⟨e1, e2, -⟩ := f2.ks [(1, _), (2, _)] ⟨e1, e2, trivial⟩
 have e8 : get a2 8 = (.int .i64 (t.k)) := f2.v 1 rfl
 replace r0 := f2.ib 0 rfl
 clear f2
 show Code.wp _ _ _ a2 w2
 refine wp_block ?_
 refine wp_seq ?_
 refine region_St (bf := [0, 1]) (sp := [det _ 10 _, det _ 9 _]) [ib r0] mixed st2 (by kernel_rfl) ⟨r0, trivial⟩
  ⟨Ob.d fun c => r_eql rfl (c.p e8) rfl,
  Ob.d fun c => r_assign rfl (c.n 0 rfl), trivial⟩ ?_
 intro a3 w3 τ3 st3 f3
 obtain ⟨e1, e2, e8, -⟩ := f3.ks [(1, _), (2, _), (8, _)] ⟨e1, e2, e8, trivial⟩
 have e9 : get a3 9 = (.bool (decide (t.k = 2))) := f3.v 1 rfl
 replace r0 := f3.ib 0 rfl
 clear f3
 show Code.wp _ _ _ a3 w3
 refine wp_cond_split (t := decide (t.k = 2)) e9 (fun hc1 => ?_) (fun hc1 => ?_)
 · try simp only [decide_eq_true_eq] at hc1
   refine wp_seq ?_
   refine region_St (bf := [0, 1, 3]) (sp := [det _ 11 _, det _ 12 _, det _ 3 _]) [ib r0] mixed st3 (by kernel_rfl) ⟨r0, trivial⟩
    ⟨Ob.d fun c => r_fieldAddr rfl Try.underlying25 rfl rfl Try.sizeOf9 ((c.p e1).trans r0.ptr),
    Ob.d fun c => r_load1 rfl Try.isAgg9 (c.n 0 rfl) ((c.ib 0 rfl).cell (j := 1) rfl),
    Ob.d fun c => r_assign rfl (c.n 1 rfl), trivial⟩ ?_
   intro a4 w4 τ4 st4 f4
   obtain ⟨e1, e2, e8, -⟩ := f4.ks [(1, _), (2, _), (8, _)] ⟨e1, e2, e8, trivial⟩
   have e3 : get a4 3 = (.string (t.ch)) := f4.v 2 rfl
   replace r0 := f4.ib 0 rfl
   clear f4
   show Code.wp _ _ _ a4 w4
   refine wp_seq ?_
   refine region_St (bf := [0, 1]) (sp := [det _ 13 _, box _ _ 0 1 [(.int .i64 (t.k)), (.string ((⟨#[]⟩ : ByteArray))), (.bool (t.ng)), t.rv.v, (.int .i64 (t.mn)), (.int .i64 (t.mx)), (.bool (t.lz)), t.kv.v]]) [ib r0] mixed st4 (by kernel_rfl) ⟨r0, trivial⟩
    ⟨Ob.d fun c => r_fieldAddr rfl Try.underlying25 rfl rfl Try.sizeOf9 ((c.p e1).trans r0.ptr),
    Ob.storeBox (off := 1) (v := (.string ((⟨#[]⟩ : ByteArray)))) rfl rfl rfl rfl Try.sizeOf9 (Nat.le_of_ble_eq_true rfl) (by simp [Value.cells, Value.oneCell', Sv.v]) rfl (fun _ _ _ _ c => ⟨c.bp 0 rfl e1, c.ad (c.n 0 rfl) e1 rfl, rfl⟩), trivial⟩ ?_
   intro a5 w5 τ5 st5 f5
   obtain ⟨e1, e2, e3, e8, -⟩ := f5.ks [(1, _), (2, _), (3, _), (8, _)] ⟨e1, e2, e3, e8, trivial⟩
   replace r0 : boxR 25 [(.int .i64 (t.k)), (.string ((⟨#[]⟩ : ByteArray))), (.bool (t.ng)), t.rv.v, (.int .i64 (t.mn)), (.int .i64 (t.mx)), (.bool (t.lz)), t.kv.v] (τ5 0) b1x1 w5 := f5.rb 1 e1 rfl
   clear f5
   show Code.wp _ _ _ a5 w5
   refine wp_seq ?_
   refine region_St (bf := [0, 1, 3, 7, 15, 31, 63, 127, 255, 511, 1023, 2047, 4095]) (sp := [det _ 14 _, det _ 15 _, det _ 16 _, gdet _ 17 _ _, gdet _ 18 _ _, gdet _ 19 _ _, gdet _ 20 _ _, det _ 21 _, det _ 22 _, gdet _ 23 _ _, gdet _ 24 _ _, det _ 25 _, det _ 2 _]) [ib r0] mixed st5 (by kernel_rfl) ⟨r0, trivial⟩
    ⟨Ob.d fun c => r_loadN (vs := [(.int .i64 (t.k)), (.string ((⟨#[]⟩ : ByteArray))), (.bool (t.ng)), t.rv.v, (.int .i64 (t.mn)), (.int .i64 (t.mx)), (.bool (t.lz)), t.kv.v]) rfl Try.isAgg25 Try.sizeOf25 ((c.p e1).trans r0.ptr) rfl (fun _ _ hj => (c.ib 0 rfl).cell hj),
    Ob.c fun c => ⟨_, _, (e_call1 rfl rfl Try.call50 (c.n 0 rfl)), bare_c t.k (⟨#[]⟩ : ByteArray) t.ng t.rv.v t.rows t.mn t.mx t.lz t.kv.v rfl _ (hT.at (st5.ext.trans c.J.ext)).rows⟩,
    Ob.d fun c => r_move rfl (c.n 1 rfl),
    Ob.g 2 true rfl fun c hpc => r_fieldAddr rfl Try.underlying25 rfl rfl Try.sizeOf23 ((c.p e1).trans r0.ptr),
    Ob.g 2 true rfl fun c hpc => r_load1 rfl Try.isAgg23 (c.m 3 rfl hpc) ((c.ib 0 rfl).cell (j := 7) rfl),
    Ob.g 2 true rfl fun c hpc => r_len rfl Try.underlying23 (c.m 4 rfl hpc) (hT.at st5.ext).tl.sl.sl,
    Ob.g 2 true rfl fun c hpc => r_eql rfl (c.m 5 rfl hpc) rfl,
    Ob.d fun c => r_and rfl (c.n 2 rfl) (fun h => c.m 6 rfl h),
    Ob.d fun c => r_move rfl (c.n 7 rfl),
    Ob.g 8 true rfl fun c hpc => r_move rfl (c.p e3),
    Ob.gc 8 true rfl fun c hpc => ⟨_, _, (e_call1 rfl rfl Try.call51 (c.m 9 rfl hpc)), proper_c t.ch _ (by have hq0 := hpc; (try simp only [Bool.and_eq_true, decide_eq_true_eq] at hq0); omega)⟩,
    Ob.d fun c => r_and rfl (c.n 8 rfl) (fun h => c.m 10 rfl h),
    Ob.d fun c => r_assign rfl (c.n 11 rfl), trivial⟩ ?_
   intro a6 w6 τ6 st6 f6
   obtain ⟨e1, e8, -⟩ := f6.ks [(1, _), (8, _)] ⟨e1, e8, trivial⟩
   have e2 : get a6 2 = (.bool (((bareF (⟨#[]⟩ : ByteArray) t.ng t.rows t.mn t.mx t.lz) && (decide ((t.kids.length : Int) = 0))) && (properB t.ch))) := f6.v 12 rfl
   replace r0 := f6.ib 0 rfl
   clear f6
   show Code.wp _ _ _ a6 w6
   refine wp_ret ?_
   repeat (first | with_reducible refine then_ret ?_ | with_reducible refine block_ret ?_)
   refine ret1 (fn := Try.f40) rfl st6.defers e2 ?_
   exact ⟨congrArg _ (congrArg _ (by unfold fieldsF; (repeat (first | rw [if_neg (by omega)] | rw [if_pos (by omega)])); (try rfl))), st6.ext0⟩
 try simp only [decide_eq_false_iff_not] at hc1
 refine wp_seq ?_
 refine region_St (bf := [0, 1]) (sp := [det _ 27 _, det _ 26 _]) [ib r0] mixed st3 (by kernel_rfl) ⟨r0, trivial⟩
  ⟨Ob.d fun c => r_eql rfl (c.p e8) rfl,
  Ob.d fun c => r_assign rfl (c.n 0 rfl), trivial⟩ ?_
 intro a7 w7 τ7 st7 f7
 obtain ⟨e1, e2, e8, -⟩ := f7.ks [(1, _), (2, _), (8, _)] ⟨e1, e2, e8, trivial⟩
 have e26 : get a7 26 = (.bool (decide (t.k = 4))) := f7.v 1 rfl
 replace r0 := f7.ib 0 rfl
 clear f7
 show Code.wp _ _ _ a7 w7
 refine wp_cond_split (t := decide (t.k = 4)) e26 (fun hc2 => ?_) (fun hc2 => ?_)
 · try simp only [decide_eq_true_eq] at hc2
   refine wp_seq ?_
   refine region_St (bf := [0, 1, 3]) (sp := [det _ 28 _, det _ 29 _, det _ 4 _]) [ib r0] mixed st7 (by kernel_rfl) ⟨r0, trivial⟩
    ⟨Ob.d fun c => r_fieldAddr rfl Try.underlying25 rfl rfl Try.sizeOf22 ((c.p e1).trans r0.ptr),
    Ob.d fun c => r_load1 rfl Try.isAgg22 (c.n 0 rfl) ((c.ib 0 rfl).cell (j := 3) rfl),
    Ob.d fun c => r_assign rfl (c.n 1 rfl), trivial⟩ ?_
   intro a8 w8 τ8 st8 f8
   obtain ⟨e1, e2, e8, -⟩ := f8.ks [(1, _), (2, _), (8, _)] ⟨e1, e2, e8, trivial⟩
   have e4 : get a8 4 = t.rv.v := f8.v 2 rfl
   replace r0 := f8.ib 0 rfl
   clear f8
   show Code.wp _ _ _ a8 w8
   refine wp_seq ?_
   refine region_of_ops ?_
   refine ops_cut 3 (by kernel_rfl) ?_
   refine ops_St (bf := [0, 1, 3]) (sp := [det _ 30 _, box _ _ 0 1 [(.int .i64 (t.k)), (.string (t.ch)), (.bool (t.ng)), (.slice none 0 0), (.int .i64 (t.mn)), (.int .i64 (t.mx)), (.bool (t.lz)), t.kv.v], det _ 31 _]) [ib r0] st8 (by kernel_rfl) ⟨r0, trivial⟩
    ⟨Ob.d fun c => r_fieldAddr rfl Try.underlying25 rfl rfl Try.sizeOf22 ((c.p e1).trans r0.ptr),
    Ob.storeBox (off := 3) (v := (.slice none 0 0)) rfl rfl rfl rfl Try.sizeOf22 (Nat.le_of_ble_eq_true rfl) (by simp [Value.cells, Value.oneCell', Sv.v]) rfl (fun _ _ _ _ c => ⟨c.bp 0 rfl e1, c.ad (c.n 0 rfl) e1 rfl, rfl⟩),
    Ob.d fun c => r_fieldAddr rfl Try.underlying25 rfl rfl Try.sizeOf4 ((c.p e1).trans r0.ptr), trivial⟩ ?_
   intro a9 w9 τ9 st9 f9
   obtain ⟨e1, e2, e4, e8, -⟩ := f9.ks [(1, _), (2, _), (4, _), (8, _)] ⟨e1, e2, e4, e8, trivial⟩
   have e31 : get a9 31 = (.pointer (some ((ptrOf b1x1).add 2))) := f9.v 2 rfl
   replace r0 : boxR 25 [(.int .i64 (t.k)), (.string (t.ch)), (.bool (t.ng)), (.slice none 0 0), (.int .i64 (t.mn)), (.int .i64 (t.mx)), (.bool (t.lz)), t.kv.v] (τ9 0) b1x1 w9 := f9.rb 1 e1 rfl
   clear f9
   refine only_mk ?_
   refine ops_St (bf := [0]) (sp := [box _ _ 0 1 [(.int .i64 (t.k)), (.string (t.ch)), (.bool (false)), (.slice none 0 0), (.int .i64 (t.mn)), (.int .i64 (t.mx)), (.bool (t.lz)), t.kv.v]]) [ib r0] st9 (by kernel_rfl) ⟨r0, trivial⟩
    ⟨Ob.storeBox (off := 2) (v := (.bool (false))) rfl rfl rfl rfl Try.sizeOf4 (Nat.le_of_ble_eq_true rfl) (by simp [Value.cells, Value.oneCell', Sv.v]) rfl (fun _ _ _ _ c => ⟨c.bp 0 rfl e1, c.ad (c.p e31) e1 rfl, rfl⟩), trivial⟩ ?_
   intro a10 w10 τ10 st10 f10
   obtain ⟨e1, e2, e4, e8, -⟩ := f10.ks [(1, _), (2, _), (4, _), (8, _)] ⟨e1, e2, e4, e8, trivial⟩
   replace r0 : boxR 25 [(.int .i64 (t.k)), (.string (t.ch)), (.bool (false)), (.slice none 0 0), (.int .i64 (t.mn)), (.int .i64 (t.mx)), (.bool (t.lz)), t.kv.v] (τ10 0) b1x1 w10 := f10.rb 0 e1 rfl
   clear f10
   show Code.wp _ _ _ a10 w10
   refine wp_seq ?_
   refine region_St (bf := [0, 1, 3, 7, 15, 31, 63, 127, 255, 511, 1023, 2047, 4095]) (sp := [det _ 32 _, det _ 33 _, det _ 34 _, gdet _ 35 _ _, gdet _ 36 _ _, gdet _ 37 _ _, gdet _ 38 _ _, det _ 39 _, det _ 40 _, gdet _ 41 _ _, gdet _ 42 _ _, det _ 43 _, det _ 2 _]) [ib r0] mixed st10 (by kernel_rfl) ⟨r0, trivial⟩
    ⟨Ob.d fun c => r_loadN (vs := [(.int .i64 (t.k)), (.string (t.ch)), (.bool (false)), (.slice none 0 0), (.int .i64 (t.mn)), (.int .i64 (t.mx)), (.bool (t.lz)), t.kv.v]) rfl Try.isAgg25 Try.sizeOf25 ((c.p e1).trans r0.ptr) rfl (fun _ _ hj => (c.ib 0 rfl).cell hj),
    Ob.c fun c => ⟨_, _, (e_call1 rfl rfl Try.call50 (c.n 0 rfl)), bare_c t.k t.ch false (.slice none 0 0) ([]) t.mn t.mx t.lz t.kv.v rfl _ (SlT.nil _ _)⟩,
    Ob.d fun c => r_move rfl (c.n 1 rfl),
    Ob.g 2 true rfl fun c hpc => r_fieldAddr rfl Try.underlying25 rfl rfl Try.sizeOf23 ((c.p e1).trans r0.ptr),
    Ob.g 2 true rfl fun c hpc => r_load1 rfl Try.isAgg23 (c.m 3 rfl hpc) ((c.ib 0 rfl).cell (j := 7) rfl),
    Ob.g 2 true rfl fun c hpc => r_len rfl Try.underlying23 (c.m 4 rfl hpc) (hT.at st10.ext).tl.sl.sl,
    Ob.g 2 true rfl fun c hpc => r_eql rfl (c.m 5 rfl hpc) rfl,
    Ob.d fun c => r_and rfl (c.n 2 rfl) (fun h => c.m 6 rfl h),
    Ob.d fun c => r_move rfl (c.n 7 rfl),
    Ob.g 8 true rfl fun c hpc => r_move rfl (c.p e4),
    Ob.gc 8 true rfl fun c hpc => ⟨_, _, (e_call1 rfl rfl Try.call52 (c.m 9 rfl hpc)), mayR_c t.rv.v t.rows _ (hT.at (st10.ext.trans c.J.ext)).rows (by first | assumption | (unfold Small; decide)) (by have hq0 := hpc; (try simp only [Bool.and_eq_true, decide_eq_true_eq] at hq0); omega)⟩,
    Ob.d fun c => r_and rfl (c.n 8 rfl) (fun h => c.m 10 rfl h),
    Ob.d fun c => r_assign rfl (c.n 11 rfl), trivial⟩ ?_
   intro a11 w11 τ11 st11 f11
   obtain ⟨e1, e8, -⟩ := f11.ks [(1, _), (8, _)] ⟨e1, e8, trivial⟩
   have e2 : get a11 2 = (.bool (((bareF t.ch false ([]) t.mn t.mx t.lz) && (decide ((t.kids.length : Int) = 0))) && (mayRow t.rows))) := f11.v 12 rfl
   replace r0 := f11.ib 0 rfl
   clear f11
   show Code.wp _ _ _ a11 w11
   refine wp_ret ?_
   repeat (first | with_reducible refine then_ret ?_ | with_reducible refine block_ret ?_)
   refine ret1 (fn := Try.f40) rfl st11.defers e2 ?_
   exact ⟨congrArg _ (congrArg _ (by unfold fieldsF; (repeat (first | rw [if_neg (by omega)] | rw [if_pos (by omega)])); (try rfl))), st11.ext0⟩
 try simp only [decide_eq_false_iff_not] at hc2
 refine wp_seq ?_
 refine region_St (bf := [0, 1]) (sp := [det _ 45 _, det _ 44 _]) [ib r0] mixed st7 (by kernel_rfl) ⟨r0, trivial⟩
  ⟨Ob.d fun c => r_eql rfl (c.p e8) rfl,
  Ob.d fun c => r_assign rfl (c.n 0 rfl), trivial⟩ ?_
 intro a12 w12 τ12 st12 f12
 obtain ⟨e1, e2, e8, -⟩ := f12.ks [(1, _), (2, _), (8, _)] ⟨e1, e2, e8, trivial⟩
 have e44 : get a12 44 = (.bool (decide (t.k = 7))) := f12.v 1 rfl
 replace r0 := f12.ib 0 rfl
 clear f12
 show Code.wp _ _ _ a12 w12
 refine wp_cond_split (t := decide (t.k = 7)) e44 (fun hc3 => ?_) (fun hc3 => ?_)
 · try simp only [decide_eq_true_eq] at hc3
   refine wp_seq ?_
   refine region_St (bf := [0, 1, 0, 4, 3, 31]) (sp := [det _ 46 _, det _ 47 _, det _ 48 _, det _ 49 _, det _ 5 _, det _ 6 _]) [ib r0] mixed st12 (by kernel_rfl) ⟨r0, trivial⟩
    ⟨Ob.d fun c => r_fieldAddr rfl Try.underlying25 rfl rfl Try.sizeOf3 ((c.p e1).trans r0.ptr),
    Ob.d fun c => r_load1 rfl Try.isAgg3 (c.n 0 rfl) ((c.ib 0 rfl).cell (j := 4) rfl),
    Ob.d fun c => r_fieldAddr rfl Try.underlying25 rfl rfl Try.sizeOf3 ((c.p e1).trans r0.ptr),
    Ob.d fun c => r_load1 rfl Try.isAgg3 (c.n 2 rfl) ((c.ib 0 rfl).cell (j := 5) rfl),
    Ob.d fun c => r_assign rfl (c.n 1 rfl),
    Ob.d fun c => r_assign rfl (c.n 3 rfl), trivial⟩ ?_
   intro a13 w13 τ13 st13 f13
   obtain ⟨e1, e2, e8, -⟩ := f13.ks [(1, _), (2, _), (8, _)] ⟨e1, e2, e8, trivial⟩
   have e5 : get a13 5 = (.int .i64 (t.mn)) := f13.v 4 rfl
   have e6 : get a13 6 = (.int .i64 (t.mx)) := f13.v 5 rfl
   replace r0 := f13.ib 0 rfl
   clear f13
   show Code.wp _ _ _ a13 w13
   refine wp_seq ?_
   refine region_of_ops ?_
   refine ops_cut 3 (by kernel_rfl) ?_
   refine ops_St (bf := [0, 1, 3]) (sp := [det _ 50 _, box _ _ 0 1 [(.int .i64 (t.k)), (.string (t.ch)), (.bool (t.ng)), t.rv.v, (.int .i64 (0)), (.int .i64 (t.mx)), (.bool (t.lz)), t.kv.v], det _ 51 _]) [ib r0] st13 (by kernel_rfl) ⟨r0, trivial⟩
    ⟨Ob.d fun c => r_fieldAddr rfl Try.underlying25 rfl rfl Try.sizeOf3 ((c.p e1).trans r0.ptr),
    Ob.storeBox (off := 4) (v := (.int .i64 (0))) rfl rfl rfl rfl Try.sizeOf3 (Nat.le_of_ble_eq_true rfl) (by simp [Value.cells, Value.oneCell', Sv.v]) rfl (fun _ _ _ _ c => ⟨c.bp 0 rfl e1, c.ad (c.n 0 rfl) e1 rfl, rfl⟩),
    Ob.d fun c => r_fieldAddr rfl Try.underlying25 rfl rfl Try.sizeOf3 ((c.p e1).trans r0.ptr), trivial⟩ ?_
   intro a14 w14 τ14 st14 f14
   obtain ⟨e1, e2, e5, e6, e8, -⟩ := f14.ks [(1, _), (2, _), (5, _), (6, _), (8, _)] ⟨e1, e2, e5, e6, e8, trivial⟩
   have e51 : get a14 51 = (.pointer (some ((ptrOf b1x1).add 5))) := f14.v 2 rfl
   replace r0 : boxR 25 [(.int .i64 (t.k)), (.string (t.ch)), (.bool (t.ng)), t.rv.v, (.int .i64 (0)), (.int .i64 (t.mx)), (.bool (t.lz)), t.kv.v] (τ14 0) b1x1 w14 := f14.rb 1 e1 rfl
   clear f14
   refine only_mk ?_
   refine ops_cut 2 (by kernel_rfl) ?_
   refine ops_St (bf := [0, 1]) (sp := [box _ _ 0 1 [(.int .i64 (t.k)), (.string (t.ch)), (.bool (t.ng)), t.rv.v, (.int .i64 (0)), (.int .i64 (0)), (.bool (t.lz)), t.kv.v], det _ 52 _]) [ib r0] st14 (by kernel_rfl) ⟨r0, trivial⟩
    ⟨Ob.storeBox (off := 5) (v := (.int .i64 (0))) rfl rfl rfl rfl Try.sizeOf3 (Nat.le_of_ble_eq_true rfl) (by simp [Value.cells, Value.oneCell', Sv.v]) rfl (fun _ _ _ _ c => ⟨c.bp 0 rfl e1, c.ad (c.p e51) e1 rfl, rfl⟩),
    Ob.d fun c => r_fieldAddr rfl Try.underlying25 rfl rfl Try.sizeOf4 ((c.p e1).trans r0.ptr), trivial⟩ ?_
   intro a15 w15 τ15 st15 f15
   obtain ⟨e1, e2, e5, e6, e8, -⟩ := f15.ks [(1, _), (2, _), (5, _), (6, _), (8, _)] ⟨e1, e2, e5, e6, e8, trivial⟩
   have e52 : get a15 52 = (.pointer (some ((ptrOf b1x1).add 6))) := f15.v 1 rfl
   replace r0 : boxR 25 [(.int .i64 (t.k)), (.string (t.ch)), (.bool (t.ng)), t.rv.v, (.int .i64 (0)), (.int .i64 (0)), (.bool (t.lz)), t.kv.v] (τ15 0) b1x1 w15 := f15.rb 0 e1 rfl
   clear f15
   refine only_mk ?_
   refine ops_St (bf := [0]) (sp := [box _ _ 0 1 [(.int .i64 (t.k)), (.string (t.ch)), (.bool (t.ng)), t.rv.v, (.int .i64 (0)), (.int .i64 (0)), (.bool (false)), t.kv.v]]) [ib r0] st15 (by kernel_rfl) ⟨r0, trivial⟩
    ⟨Ob.storeBox (off := 6) (v := (.bool (false))) rfl rfl rfl rfl Try.sizeOf4 (Nat.le_of_ble_eq_true rfl) (by simp [Value.cells, Value.oneCell', Sv.v]) rfl (fun _ _ _ _ c => ⟨c.bp 0 rfl e1, c.ad (c.p e52) e1 rfl, rfl⟩), trivial⟩ ?_
   intro a16 w16 τ16 st16 f16
   obtain ⟨e1, e2, e5, e6, e8, -⟩ := f16.ks [(1, _), (2, _), (5, _), (6, _), (8, _)] ⟨e1, e2, e5, e6, e8, trivial⟩
   replace r0 : boxR 25 [(.int .i64 (t.k)), (.string (t.ch)), (.bool (t.ng)), t.rv.v, (.int .i64 (0)), (.int .i64 (0)), (.bool (false)), t.kv.v] (τ16 0) b1x1 w16 := f16.rb 0 e1 rfl
   clear f16
   show Code.wp _ _ _ a16 w16
   refine wp_seq ?_
   refine region_St (bf := [0, 1, 3, 7, 15, 31, 63, 127, 255, 511, 1023, 2047, 4095, 8191, 16383, 32767, 65535, 131071, 262143, 524287, 1048575, 2097151, 4194303, 8388607, 16777215, 33554431, 67108863, 134217727, 268435455, 268435455, 1073741823, 2147483647, 4294967295, 8589934591, 17179869183, 34359738367, 68719476735, 137438953471]) (sp := [det _ 53 _, det _ 54 _, det _ 55 _, gdet _ 56 _ _, gdet _ 57 _ _, gdet _ 58 _ _, gdet _ 59 _ _, det _ 60 _, det _ 61 _, gdet _ 62 _ _, gdet _ 63 _ _, gdet _ 64 _ _, gdet _ 65 _ _, gdet _ 66 _ _, gdet _ 67 _ _, det _ 68 _, det _ 69 _, gdet _ 70 _ _, gdet _ 71 _ _, det _ 72 _, det _ 73 _, gdet _ 74 _ _, gdet _ 75 _ _, det _ 76 _, det _ 77 _, gdet _ 78 _ _, gdet _ 79 _ _, gdet _ 80 _ _, gdet _ 81 _ _, gdet _ 82 _ _, gdet _ 83 _ _, gdet _ 84 _ _, gdet _ 85 _ _, gdet _ 86 _ _, gdet _ 87 _ _, gdet _ 88 _ _, det _ 89 _, det _ 2 _]) [ib r0] mixed st16 (by kernel_rfl) ⟨r0, trivial⟩
    ⟨Ob.d fun c => r_loadN (vs := [(.int .i64 (t.k)), (.string (t.ch)), (.bool (t.ng)), t.rv.v, (.int .i64 (0)), (.int .i64 (0)), (.bool (false)), t.kv.v]) rfl Try.isAgg25 Try.sizeOf25 ((c.p e1).trans r0.ptr) rfl (fun _ _ hj => (c.ib 0 rfl).cell hj),
    Ob.c fun c => ⟨_, _, (e_call1 rfl rfl Try.call50 (c.n 0 rfl)), bare_c t.k t.ch t.ng t.rv.v t.rows 0 0 false t.kv.v rfl _ (hT.at (st16.ext.trans c.J.ext)).rows⟩,
    Ob.d fun c => r_move rfl (c.n 1 rfl),
    Ob.g 2 true rfl fun c hpc => r_fieldAddr rfl Try.underlying25 rfl rfl Try.sizeOf23 ((c.p e1).trans r0.ptr),
    Ob.g 2 true rfl fun c hpc => r_load1 rfl Try.isAgg23 (c.m 3 rfl hpc) ((c.ib 0 rfl).cell (j := 7) rfl),
    Ob.g 2 true rfl fun c hpc => r_len rfl Try.underlying23 (c.m 4 rfl hpc) (hT.at st16.ext).tl.sl.sl,
    Ob.g 2 true rfl fun c hpc => r_eql rfl (c.m 5 rfl hpc) rfl,
    Ob.d fun c => r_and rfl (c.n 2 rfl) (fun h => c.m 6 rfl h),
    Ob.d fun c => r_move rfl (c.n 7 rfl),
    Ob.g 8 true rfl fun c hpc => r_fieldAddr rfl Try.underlying25 rfl rfl Try.sizeOf23 ((c.p e1).trans r0.ptr),
    Ob.g 8 true rfl fun c hpc => r_load1 rfl Try.isAgg23 (c.m 9 rfl hpc) ((c.ib 0 rfl).cell (j := 7) rfl),
    Ob.g 8 true rfl fun c hpc => r_indexAddr rfl Try.underlying23 Try.sizeOf25 (c.m 10 rfl hpc) (hT.at st16.ext).tl.sl.sl rfl (by have hq0 := hpc; (try simp only [Bool.and_eq_true, decide_eq_true_eq] at hq0); omega) (by have hq0 := hpc; (try simp only [Bool.and_eq_true, decide_eq_true_eq] at hq0); omega),
    Ob.g 8 true rfl fun c hpc => r_fieldAddr rfl Try.underlying25 rfl rfl Try.sizeOf3 (c.m 11 rfl hpc),
    Ob.g 8 true rfl fun c hpc => r_load1 rfl Try.isAgg3 (c.m 12 rfl hpc) (((hT.at (st16.ext.trans c.J.ext)).tl.sl).elem (j := 0) (nth_some (i := 0) (by have hq0 := hpc; (try simp only [Bool.and_eq_true, decide_eq_true_eq] at hq0); omega) (by have hq0 := hpc; (try simp only [Bool.and_eq_true, decide_eq_true_eq] at hq0); omega)) rfl),
    Ob.gc 8 true rfl fun c hpc => ⟨_, _, (e_call1 rfl rfl Try.call53 (c.m 13 rfl hpc)), repeated_c ((nth t.kids (0)).k) _⟩,
    Ob.d fun c => r_and rfl (c.n 8 rfl) (fun h => c.m 14 rfl h),
    Ob.d fun c => r_move rfl (c.n 15 rfl),
    Ob.g 16 true rfl fun c hpc => r_move rfl (c.p e5),
    Ob.g 16 true rfl fun c hpc => r_geq rfl (c.m 17 rfl hpc) rfl,
    Ob.d fun c => r_and rfl (c.n 16 rfl) (fun h => c.m 18 rfl h),
    Ob.d fun c => r_move rfl (c.n 19 rfl),
    Ob.g 20 true rfl fun c hpc => r_move rfl (c.p e5),
    Ob.g 20 true rfl fun c hpc => r_leq rfl (c.m 21 rfl hpc) rfl,
    Ob.d fun c => r_and rfl (c.n 20 rfl) (fun h => c.m 22 rfl h),
    Ob.d fun c => r_move rfl (c.n 23 rfl),
    Ob.g 24 true rfl fun c hpc => r_move rfl (c.p e6),
    Ob.g 24 true rfl fun c hpc => r_eql rfl (c.m 25 rfl hpc) rfl,
    Ob.g 24 true rfl fun c hpc => r_move rfl (c.m 26 rfl hpc),
    Ob.gg 27 false rfl fun c hpc => r_move rfl (c.p e6),
    Ob.gg 27 false rfl fun c hpc => r_move rfl (c.p e5),
    Ob.gg 27 false rfl fun c hpc => r_geq rfl (c.m 28 rfl hpc) (c.m 29 rfl hpc),
    Ob.gg 27 false rfl fun c hpc => r_move rfl (c.m 30 rfl hpc),
    Ob.gg 31 true rfl fun c hpc => r_move rfl (c.p e6),
    Ob.gg 31 true rfl fun c hpc => r_leq rfl (c.m 32 rfl hpc) rfl,
    Ob.gg 27 false rfl fun c hpc => r_and rfl (c.m 31 rfl hpc) (fun h => c.m 33 rfl (And.intro hpc h)),
    Ob.g 24 true rfl fun c hpc => r_or rfl (c.m 27 rfl hpc) (fun h => c.m 34 rfl (And.intro hpc h)),
    Ob.d fun c => r_and rfl (c.n 24 rfl) (fun h => c.m 35 rfl h),
    Ob.d fun c => r_assign rfl (c.n 36 rfl), trivial⟩ ?_
   intro a17 w17 τ17 st17 f17
   obtain ⟨e1, e8, -⟩ := f17.ks [(1, _), (8, _)] ⟨e1, e8, trivial⟩
   have e2 : get a17 2 = (.bool ((((((bareF t.ch t.ng t.rows 0 0 false) && (decide ((t.kids.length : Int) = 1))) && (repB ((nth t.kids (0)).k))) && (decide (0 ≤ t.mn))) && (decide (t.mn ≤ 255))) && ((decide (t.mx = (-1))) || ((decide (t.mn ≤ t.mx)) && (decide (t.mx ≤ 255)))))) := f17.v 37 rfl
   replace r0 := f17.ib 0 rfl
   clear f17
   show Code.wp _ _ _ a17 w17
   refine wp_ret ?_
   repeat (first | with_reducible refine then_ret ?_ | with_reducible refine block_ret ?_)
   refine ret1 (fn := Try.f40) rfl st17.defers e2 ?_
   exact ⟨congrArg _ (congrArg _ (by unfold fieldsF; (repeat (first | rw [if_neg (by omega)] | rw [if_pos (by omega)])); (try rfl))), st17.ext0⟩
 try simp only [decide_eq_false_iff_not] at hc3
 refine wp_seq ?_
 refine region_St (bf := [0, 1]) (sp := [det _ 91 _, det _ 90 _]) [ib r0] mixed st12 (by kernel_rfl) ⟨r0, trivial⟩
  ⟨Ob.d fun c => r_eql rfl (c.p e8) rfl,
  Ob.d fun c => r_assign rfl (c.n 0 rfl), trivial⟩ ?_
 intro a18 w18 τ18 st18 f18
 obtain ⟨e1, e2, e8, -⟩ := f18.ks [(1, _), (2, _), (8, _)] ⟨e1, e2, e8, trivial⟩
 have e90 : get a18 90 = (.bool (decide (t.k = 0))) := f18.v 1 rfl
 replace r0 := f18.ib 0 rfl
 clear f18
 show Code.wp _ _ _ a18 w18
 refine wp_cond_split (t := decide (t.k = 0)) e90 (fun hc4 => ?_) (fun hc4 => ?_)
 · try simp only [decide_eq_true_eq] at hc4
   refine wp_seq ?_
   refine region_St (bf := [0, 1, 3, 7, 15, 31, 63, 127, 255, 511, 1023, 511, 4095, 8191, 16383, 32767]) (sp := [det _ 92 _, det _ 93 _, det _ 94 _, gdet _ 95 _ _, gdet _ 96 _ _, gdet _ 97 _ _, gdet _ 98 _ _, det _ 99 _, det _ 100 _, gdet _ 101 _ _, gdet _ 102 _ _, gown (((bareF t.ch t.ng t.rows t.mn t.mx t.lz) && (!decide ((t.kids.length : Int) = 1))) = true) IntE 3 (Nw w) 1 103 ([0, 1]), gdet _ 104 _ _, gdet _ 105 _ _, det _ 106 _, det _ 2 _]) [ib r0] mixed st18 (by kernel_rfl) ⟨r0, trivial⟩
    ⟨Ob.d fun c => r_loadN (vs := [(.int .i64 (t.k)), (.string (t.ch)), (.bool (t.ng)), t.rv.v, (.int .i64 (t.mn)), (.int .i64 (t.mx)), (.bool (t.lz)), t.kv.v]) rfl Try.isAgg25 Try.sizeOf25 ((c.p e1).trans r0.ptr) rfl (fun _ _ hj => (c.ib 0 rfl).cell hj),
    Ob.c fun c => ⟨_, _, (e_call1 rfl rfl Try.call50 (c.n 0 rfl)), bare_c t.k t.ch t.ng t.rv.v t.rows t.mn t.mx t.lz t.kv.v rfl _ (hT.at (st18.ext.trans c.J.ext)).rows⟩,
    Ob.d fun c => r_move rfl (c.n 1 rfl),
    Ob.g 2 true rfl fun c hpc => r_fieldAddr rfl Try.underlying25 rfl rfl Try.sizeOf23 ((c.p e1).trans r0.ptr),
    Ob.g 2 true rfl fun c hpc => r_load1 rfl Try.isAgg23 (c.m 3 rfl hpc) ((c.ib 0 rfl).cell (j := 7) rfl),
    Ob.g 2 true rfl fun c hpc => r_len rfl Try.underlying23 (c.m 4 rfl hpc) (hT.at st18.ext).tl.sl.sl,
    Ob.g 2 true rfl fun c hpc => r_neq rfl (c.m 5 rfl hpc) rfl,
    Ob.d fun c => r_and rfl (c.n 2 rfl) (fun h => c.m 6 rfl h),
    Ob.d fun c => r_move rfl (c.n 7 rfl),
    Ob.g 8 true rfl fun c hpc => r_fieldAddr rfl Try.underlying25 rfl rfl Try.sizeOf23 ((c.p e1).trans r0.ptr),
    Ob.g 8 true rfl fun c hpc => r_load1 rfl Try.isAgg23 (c.m 9 rfl hpc) ((c.ib 0 rfl).cell (j := 7) rfl),
    Ob.gown (gi := 8) (tg := 100) rfl rfl rfl rfl rfl rfl Iff.rfl (fun hpc => Ob.buildSlice (cells := #[(.int .i64 (0)), (.int .i64 (1))]) rfl rfl rfl rfl Try.underlying70 Try.sizeOf3 Try.zeroValue3 rfl (by decide) (by decide) (fun _ _ _ _ c => fill2 rfl rfl (by kernel_rfl)) rfl),
    Ob.gc 8 true rfl fun c hpc => ⟨_, _, (e_call2 rfl rfl Try.call54 (c.m 10 rfl hpc) (eval_tmp _ 103)), some_cv t.kv.v _ t.kids ([0, 1]) _ (hT.at (st18.ext.trans c.J.ext)).tl.sl (c.rg 11 rfl hpc).1.sl⟩,
    Ob.g 8 true rfl fun c hpc => r_not rfl (c.m 12 rfl hpc),
    Ob.d fun c => r_and rfl (c.n 8 rfl) (fun h => c.m 13 rfl h),
    Ob.d fun c => r_assign rfl (c.n 14 rfl), trivial⟩ ?_
   intro a19 w19 τ19 st19 f19
   obtain ⟨e1, e8, -⟩ := f19.ks [(1, _), (8, _)] ⟨e1, e8, trivial⟩
   have e2 : get a19 2 = (.bool (((bareF t.ch t.ng t.rows t.mn t.mx t.lz) && (!decide ((t.kids.length : Int) = 1))) && (!((t.kids).any fun x_ => ([0, 1]).any fun y_ => decide (x_.k = y_))))) := f19.v 15 rfl
   replace r0 := f19.ib 0 rfl
   clear f19
   show Code.wp _ _ _ a19 w19
   refine wp_ret ?_
   repeat (first | with_reducible refine then_ret ?_ | with_reducible refine block_ret ?_)
   refine ret1 (fn := Try.f40) rfl st19.defers e2 ?_
   exact ⟨congrArg _ (congrArg _ (by unfold fieldsF; (repeat (first | rw [if_neg (by omega)] | rw [if_pos (by omega)])); (try rfl))), st19.ext0⟩
 try simp only [decide_eq_false_iff_not] at hc4
 refine wp_seq ?_
 refine region_St (bf := [0, 1]) (sp := [det _ 108 _, det _ 107 _]) [ib r0] mixed st18 (by kernel_rfl) ⟨r0, trivial⟩
  ⟨Ob.d fun c => r_eql rfl (c.p e8) rfl,
  Ob.d fun c => r_assign rfl (c.n 0 rfl), trivial⟩ ?_
 intro a20 w20 τ20 st20 f20
 obtain ⟨e1, e2, e8, -⟩ := f20.ks [(1, _), (2, _), (8, _)] ⟨e1, e2, e8, trivial⟩
 have e107 : get a20 107 = (.bool (decide (t.k = 1))) := f20.v 1 rfl
 replace r0 := f20.ib 0 rfl
 clear f20
 show Code.wp _ _ _ a20 w20
 refine wp_cond_split (t := decide (t.k = 1)) e107 (fun hc5 => ?_) (fun hc5 => ?_)
 · try simp only [decide_eq_true_eq] at hc5
   refine wp_seq ?_
   refine region_St (bf := [0, 1, 3, 7, 15, 31, 63, 127, 255, 511, 1023, 511, 4095, 8191, 16383, 32767]) (sp := [det _ 109 _, det _ 110 _, det _ 111 _, gdet _ 112 _ _, gdet _ 113 _ _, gdet _ 114 _ _, gdet _ 115 _ _, det _ 116 _, det _ 117 _, gdet _ 118 _ _, gdet _ 119 _ _, gown (((bareF t.ch t.ng t.rows t.mn t.mx t.lz) && (decide (1 < (t.kids.length : Int)))) = true) IntE 3 (Nw w) 1 120 ([1]), gdet _ 121 _ _, gdet _ 122 _ _, det _ 123 _, det _ 2 _]) [ib r0] mixed st20 (by kernel_rfl) ⟨r0, trivial⟩
    ⟨Ob.d fun c => r_loadN (vs := [(.int .i64 (t.k)), (.string (t.ch)), (.bool (t.ng)), t.rv.v, (.int .i64 (t.mn)), (.int .i64 (t.mx)), (.bool (t.lz)), t.kv.v]) rfl Try.isAgg25 Try.sizeOf25 ((c.p e1).trans r0.ptr) rfl (fun _ _ hj => (c.ib 0 rfl).cell hj),
    Ob.c fun c => ⟨_, _, (e_call1 rfl rfl Try.call50 (c.n 0 rfl)), bare_c t.k t.ch t.ng t.rv.v t.rows t.mn t.mx t.lz t.kv.v rfl _ (hT.at (st20.ext.trans c.J.ext)).rows⟩,
    Ob.d fun c => r_move rfl (c.n 1 rfl),
    Ob.g 2 true rfl fun c hpc => r_fieldAddr rfl Try.underlying25 rfl rfl Try.sizeOf23 ((c.p e1).trans r0.ptr),
    Ob.g 2 true rfl fun c hpc => r_load1 rfl Try.isAgg23 (c.m 3 rfl hpc) ((c.ib 0 rfl).cell (j := 7) rfl),
    Ob.g 2 true rfl fun c hpc => r_len rfl Try.underlying23 (c.m 4 rfl hpc) (hT.at st20.ext).tl.sl.sl,
    Ob.g 2 true rfl fun c hpc => r_gtr rfl (c.m 5 rfl hpc) rfl,
    Ob.d fun c => r_and rfl (c.n 2 rfl) (fun h => c.m 6 rfl h),
    Ob.d fun c => r_move rfl (c.n 7 rfl),
    Ob.g 8 true rfl fun c hpc => r_fieldAddr rfl Try.underlying25 rfl rfl Try.sizeOf23 ((c.p e1).trans r0.ptr),
    Ob.g 8 true rfl fun c hpc => r_load1 rfl Try.isAgg23 (c.m 9 rfl hpc) ((c.ib 0 rfl).cell (j := 7) rfl),
    Ob.gown (gi := 8) (tg := 117) rfl rfl rfl rfl rfl rfl Iff.rfl (fun hpc => Ob.buildSlice (cells := #[(.int .i64 (1))]) rfl rfl rfl rfl Try.underlying70 Try.sizeOf3 Try.zeroValue3 rfl (by decide) (by decide) (fun _ _ _ _ c => fill1 rfl (by kernel_rfl)) rfl),
    Ob.gc 8 true rfl fun c hpc => ⟨_, _, (e_call2 rfl rfl Try.call54 (c.m 10 rfl hpc) (eval_tmp _ 120)), some_cv t.kv.v _ t.kids ([1]) _ (hT.at (st20.ext.trans c.J.ext)).tl.sl (c.rg 11 rfl hpc).1.sl⟩,
    Ob.g 8 true rfl fun c hpc => r_not rfl (c.m 12 rfl hpc),
    Ob.d fun c => r_and rfl (c.n 8 rfl) (fun h => c.m 13 rfl h),
    Ob.d fun c => r_assign rfl (c.n 14 rfl), trivial⟩ ?_
   intro a21 w21 τ21 st21 f21
   obtain ⟨e1, e8, -⟩ := f21.ks [(1, _), (8, _)] ⟨e1, e8, trivial⟩
   have e2 : get a21 2 = (.bool (((bareF t.ch t.ng t.rows t.mn t.mx t.lz) && (decide (1 < (t.kids.length : Int)))) && (!((t.kids).any fun x_ => ([1]).any fun y_ => decide (x_.k = y_))))) := f21.v 15 rfl
   replace r0 := f21.ib 0 rfl
   clear f21
   show Code.wp _ _ _ a21 w21
   refine wp_ret ?_
   repeat (first | with_reducible refine then_ret ?_ | with_reducible refine block_ret ?_)
   refine ret1 (fn := Try.f40) rfl st21.defers e2 ?_
   exact ⟨congrArg _ (congrArg _ (by unfold fieldsF; (repeat (first | rw [if_neg (by omega)] | rw [if_pos (by omega)])); (try rfl))), st21.ext0⟩
 try simp only [decide_eq_false_iff_not] at hc5
 refine wp_seq ?_
 refine wp_seq ?_
 refine region_St (bf := [0, 1]) (sp := [det _ 125 _, det _ 124 _]) [ib r0] mixed st20 (by kernel_rfl) ⟨r0, trivial⟩
  ⟨Ob.d fun c => r_eql rfl (c.p e8) rfl,
  Ob.d fun c => r_assign rfl (c.n 0 rfl), trivial⟩ ?_
 intro a22 w22 τ22 st22 f22
 obtain ⟨e1, e2, e8, -⟩ := f22.ks [(1, _), (2, _), (8, _)] ⟨e1, e2, e8, trivial⟩
 have e124 : get a22 124 = (.bool (decide (t.k = 5))) := f22.v 1 rfl
 replace r0 := f22.ib 0 rfl
 clear f22
 show Code.wp _ _ _ a22 w22
 refine wp_cond_split (t := decide (t.k = 5)) e124 (fun hc6 => ?_) (fun hc6 => ?_)
 · have hd6 := hc6; try simp only [decide_eq_true_eq] at hd6
   refine wp_skip ?_
   show Code.wp _ _ _ a22 w22
   refine wp_cond_true (e124.trans (congrArg _ hc6)) ?_
   refine wp_seq ?_
   refine region_St (bf := [0, 1, 3, 7, 15, 31, 63, 127, 255]) (sp := [det _ 127 _, det _ 128 _, det _ 129 _, gdet _ 130 _ _, gdet _ 131 _ _, gdet _ 132 _ _, gdet _ 133 _ _, det _ 134 _, det _ 2 _]) [ib r0] mixed st22 (by kernel_rfl) ⟨r0, trivial⟩
    ⟨Ob.d fun c => r_loadN (vs := [(.int .i64 (t.k)), (.string (t.ch)), (.bool (t.ng)), t.rv.v, (.int .i64 (t.mn)), (.int .i64 (t.mx)), (.bool (t.lz)), t.kv.v]) rfl Try.isAgg25 Try.sizeOf25 ((c.p e1).trans r0.ptr) rfl (fun _ _ hj => (c.ib 0 rfl).cell hj),
    Ob.c fun c => ⟨_, _, (e_call1 rfl rfl Try.call50 (c.n 0 rfl)), bare_c t.k t.ch t.ng t.rv.v t.rows t.mn t.mx t.lz t.kv.v rfl _ (hT.at (st22.ext.trans c.J.ext)).rows⟩,
    Ob.d fun c => r_move rfl (c.n 1 rfl),
    Ob.g 2 true rfl fun c hpc => r_fieldAddr rfl Try.underlying25 rfl rfl Try.sizeOf23 ((c.p e1).trans r0.ptr),
    Ob.g 2 true rfl fun c hpc => r_load1 rfl Try.isAgg23 (c.m 3 rfl hpc) ((c.ib 0 rfl).cell (j := 7) rfl),
    Ob.g 2 true rfl fun c hpc => r_len rfl Try.underlying23 (c.m 4 rfl hpc) (hT.at st22.ext).tl.sl.sl,
    Ob.g 2 true rfl fun c hpc => r_eql rfl (c.m 5 rfl hpc) rfl,
    Ob.d fun c => r_and rfl (c.n 2 rfl) (fun h => c.m 6 rfl h),
    Ob.d fun c => r_assign rfl (c.n 7 rfl), trivial⟩ ?_
   intro a23 w23 τ23 st23 f23
   obtain ⟨e1, e8, -⟩ := f23.ks [(1, _), (8, _)] ⟨e1, e8, trivial⟩
   have e2 : get a23 2 = (.bool ((bareF t.ch t.ng t.rows t.mn t.mx t.lz) && (decide ((t.kids.length : Int) = 1)))) := f23.v 8 rfl
   replace r0 := f23.ib 0 rfl
   clear f23
   show Code.wp _ _ _ a23 w23
   refine wp_ret ?_
   repeat (first | with_reducible refine then_ret ?_ | with_reducible refine block_ret ?_)
   refine ret1 (fn := Try.f40) rfl st23.defers e2 ?_
   exact ⟨congrArg _ (congrArg _ (by unfold fieldsF; (repeat (first | rw [if_neg (by omega)] | rw [if_pos (by omega)])); (try rfl))), st23.ext0⟩
 have hd7 := hc6; try simp only [decide_eq_false_iff_not] at hd7
 refine region_St (bf := [0, 1]) (sp := [det _ 126 _, det _ 124 _]) [ib r0] mixed st22 (by kernel_rfl) ⟨r0, trivial⟩
  ⟨Ob.d fun c => r_eql rfl (c.p e8) rfl,
  Ob.d fun c => r_assign rfl (c.n 0 rfl), trivial⟩ ?_
 intro a24 w24 τ24 st24 f24
 obtain ⟨e1, e2, e8, -⟩ := f24.ks [(1, _), (2, _), (8, _)] ⟨e1, e2, e8, trivial⟩
 have e124 : get a24 124 = (.bool (decide (t.k = 6))) := f24.v 1 rfl
 replace r0 := f24.ib 0 rfl
 clear f24
 show Code.wp _ _ _ a24 w24
 refine wp_cond_split (t := decide (t.k = 6)) e124 (fun hc8 => ?_) (fun hc8 => ?_)
 · have hd8 := hc8; try simp only [decide_eq_true_eq] at hd8
   refine wp_seq ?_
   refine region_St (bf := [0, 1, 3, 7, 15, 31, 63, 127, 255]) (sp := [det _ 127 _, det _ 128 _, det _ 129 _, gdet _ 130 _ _, gdet _ 131 _ _, gdet _ 132 _ _, gdet _ 133 _ _, det _ 134 _, det _ 2 _]) [ib r0] mixed st24 (by kernel_rfl) ⟨r0, trivial⟩
    ⟨Ob.d fun c => r_loadN (vs := [(.int .i64 (t.k)), (.string (t.ch)), (.bool (t.ng)), t.rv.v, (.int .i64 (t.mn)), (.int .i64 (t.mx)), (.bool (t.lz)), t.kv.v]) rfl Try.isAgg25 Try.sizeOf25 ((c.p e1).trans r0.ptr) rfl (fun _ _ hj => (c.ib 0 rfl).cell hj),
    Ob.c fun c => ⟨_, _, (e_call1 rfl rfl Try.call50 (c.n 0 rfl)), bare_c t.k t.ch t.ng t.rv.v t.rows t.mn t.mx t.lz t.kv.v rfl _ (hT.at (st24.ext.trans c.J.ext)).rows⟩,
    Ob.d fun c => r_move rfl (c.n 1 rfl),
    Ob.g 2 true rfl fun c hpc => r_fieldAddr rfl Try.underlying25 rfl rfl Try.sizeOf23 ((c.p e1).trans r0.ptr),
    Ob.g 2 true rfl fun c hpc => r_load1 rfl Try.isAgg23 (c.m 3 rfl hpc) ((c.ib 0 rfl).cell (j := 7) rfl),
    Ob.g 2 true rfl fun c hpc => r_len rfl Try.underlying23 (c.m 4 rfl hpc) (hT.at st24.ext).tl.sl.sl,
    Ob.g 2 true rfl fun c hpc => r_eql rfl (c.m 5 rfl hpc) rfl,
    Ob.d fun c => r_and rfl (c.n 2 rfl) (fun h => c.m 6 rfl h),
    Ob.d fun c => r_assign rfl (c.n 7 rfl), trivial⟩ ?_
   intro a25 w25 τ25 st25 f25
   obtain ⟨e1, e8, -⟩ := f25.ks [(1, _), (8, _)] ⟨e1, e8, trivial⟩
   have e2 : get a25 2 = (.bool ((bareF t.ch t.ng t.rows t.mn t.mx t.lz) && (decide ((t.kids.length : Int) = 1)))) := f25.v 8 rfl
   replace r0 := f25.ib 0 rfl
   clear f25
   show Code.wp _ _ _ a25 w25
   refine wp_ret ?_
   repeat (first | with_reducible refine then_ret ?_ | with_reducible refine block_ret ?_)
   refine ret1 (fn := Try.f40) rfl st25.defers e2 ?_
   exact ⟨congrArg _ (congrArg _ (by unfold fieldsF; (repeat (first | rw [if_neg (by omega)] | rw [if_pos (by omega)])); (try rfl))), st25.ext0⟩
 have hd8 := hc8; try simp only [decide_eq_false_iff_not] at hd8
 refine wp_seq ?_
 refine wp_seq ?_
 refine region_St (bf := [0, 1]) (sp := [det _ 136 _, det _ 135 _]) [ib r0] mixed st24 (by kernel_rfl) ⟨r0, trivial⟩
  ⟨Ob.d fun c => r_eql rfl (c.p e8) rfl,
  Ob.d fun c => r_assign rfl (c.n 0 rfl), trivial⟩ ?_
 intro a26 w26 τ26 st26 f26
 obtain ⟨e1, e2, e8, -⟩ := f26.ks [(1, _), (2, _), (8, _)] ⟨e1, e2, e8, trivial⟩
 have e135 : get a26 135 = (.bool (decide (t.k = 3))) := f26.v 1 rfl
 replace r0 := f26.ib 0 rfl
 clear f26
 show Code.wp _ _ _ a26 w26
 refine wp_cond_split (t := decide (t.k = 3)) e135 (fun hc9 => ?_) (fun hc9 => ?_)
 · have hd9 := hc9; try simp only [decide_eq_true_eq] at hd9
   refine wp_skip ?_
   show Code.wp _ _ _ a26 w26
   refine wp_cond_true (e135.trans (congrArg _ hc9)) ?_
   refine wp_seq ?_
   refine region_St (bf := [0, 1, 3, 7, 15, 31, 63, 127, 255]) (sp := [det _ 141 _, det _ 142 _, det _ 143 _, gdet _ 144 _ _, gdet _ 145 _ _, gdet _ 146 _ _, gdet _ 147 _ _, det _ 148 _, det _ 2 _]) [ib r0] mixed st26 (by kernel_rfl) ⟨r0, trivial⟩
    ⟨Ob.d fun c => r_loadN (vs := [(.int .i64 (t.k)), (.string (t.ch)), (.bool (t.ng)), t.rv.v, (.int .i64 (t.mn)), (.int .i64 (t.mx)), (.bool (t.lz)), t.kv.v]) rfl Try.isAgg25 Try.sizeOf25 ((c.p e1).trans r0.ptr) rfl (fun _ _ hj => (c.ib 0 rfl).cell hj),
    Ob.c fun c => ⟨_, _, (e_call1 rfl rfl Try.call50 (c.n 0 rfl)), bare_c t.k t.ch t.ng t.rv.v t.rows t.mn t.mx t.lz t.kv.v rfl _ (hT.at (st26.ext.trans c.J.ext)).rows⟩,
    Ob.d fun c => r_move rfl (c.n 1 rfl),
    Ob.g 2 true rfl fun c hpc => r_fieldAddr rfl Try.underlying25 rfl rfl Try.sizeOf23 ((c.p e1).trans r0.ptr),
    Ob.g 2 true rfl fun c hpc => r_load1 rfl Try.isAgg23 (c.m 3 rfl hpc) ((c.ib 0 rfl).cell (j := 7) rfl),
    Ob.g 2 true rfl fun c hpc => r_len rfl Try.underlying23 (c.m 4 rfl hpc) (hT.at st26.ext).tl.sl.sl,
    Ob.g 2 true rfl fun c hpc => r_eql rfl (c.m 5 rfl hpc) rfl,
    Ob.d fun c => r_and rfl (c.n 2 rfl) (fun h => c.m 6 rfl h),
    Ob.d fun c => r_assign rfl (c.n 7 rfl), trivial⟩ ?_
   intro a27 w27 τ27 st27 f27
   have e2 : get a27 2 = (.bool ((bareF t.ch t.ng t.rows t.mn t.mx t.lz) && (decide ((t.kids.length : Int) = 0)))) := f27.v 8 rfl
   clear f27
   show Code.wp _ _ _ a27 w27
   refine wp_ret ?_
   repeat (first | with_reducible refine then_ret ?_ | with_reducible refine block_ret ?_)
   refine ret1 (fn := Try.f40) rfl st27.defers e2 ?_
   exact ⟨congrArg _ (congrArg _ (by unfold fieldsF; (repeat (first | rw [if_neg (by omega)] | rw [if_pos (by omega)])); (try rfl))), st27.ext0⟩
 have hd10 := hc9; try simp only [decide_eq_false_iff_not] at hd10
 refine wp_seq ?_
 refine region_St (bf := [0, 1]) (sp := [det _ 137 _, det _ 135 _]) [ib r0] mixed st26 (by kernel_rfl) ⟨r0, trivial⟩
  ⟨Ob.d fun c => r_eql rfl (c.p e8) rfl,
  Ob.d fun c => r_assign rfl (c.n 0 rfl), trivial⟩ ?_
 intro a28 w28 τ28 st28 f28
 obtain ⟨e1, e2, e8, -⟩ := f28.ks [(1, _), (2, _), (8, _)] ⟨e1, e2, e8, trivial⟩
 have e135 : get a28 135 = (.bool (decide (t.k = 8))) := f28.v 1 rfl
 replace r0 := f28.ib 0 rfl
 clear f28
 show Code.wp _ _ _ a28 w28
 refine wp_cond_split (t := decide (t.k = 8)) e135 (fun hc11 => ?_) (fun hc11 => ?_)
 · have hd11 := hc11; try simp only [decide_eq_true_eq] at hd11
   refine wp_skip ?_
   show Code.wp _ _ _ a28 w28
   refine wp_cond_true (e135.trans (congrArg _ hc11)) ?_
   refine wp_seq ?_
   refine region_St (bf := [0, 1, 3, 7, 15, 31, 63, 127, 255]) (sp := [det _ 141 _, det _ 142 _, det _ 143 _, gdet _ 144 _ _, gdet _ 145 _ _, gdet _ 146 _ _, gdet _ 147 _ _, det _ 148 _, det _ 2 _]) [ib r0] mixed st28 (by kernel_rfl) ⟨r0, trivial⟩
    ⟨Ob.d fun c => r_loadN (vs := [(.int .i64 (t.k)), (.string (t.ch)), (.bool (t.ng)), t.rv.v, (.int .i64 (t.mn)), (.int .i64 (t.mx)), (.bool (t.lz)), t.kv.v]) rfl Try.isAgg25 Try.sizeOf25 ((c.p e1).trans r0.ptr) rfl (fun _ _ hj => (c.ib 0 rfl).cell hj),
    Ob.c fun c => ⟨_, _, (e_call1 rfl rfl Try.call50 (c.n 0 rfl)), bare_c t.k t.ch t.ng t.rv.v t.rows t.mn t.mx t.lz t.kv.v rfl _ (hT.at (st28.ext.trans c.J.ext)).rows⟩,
    Ob.d fun c => r_move rfl (c.n 1 rfl),
    Ob.g 2 true rfl fun c hpc => r_fieldAddr rfl Try.underlying25 rfl rfl Try.sizeOf23 ((c.p e1).trans r0.ptr),
    Ob.g 2 true rfl fun c hpc => r_load1 rfl Try.isAgg23 (c.m 3 rfl hpc) ((c.ib 0 rfl).cell (j := 7) rfl),
    Ob.g 2 true rfl fun c hpc => r_len rfl Try.underlying23 (c.m 4 rfl hpc) (hT.at st28.ext).tl.sl.sl,
    Ob.g 2 true rfl fun c hpc => r_eql rfl (c.m 5 rfl hpc) rfl,
    Ob.d fun c => r_and rfl (c.n 2 rfl) (fun h => c.m 6 rfl h),
    Ob.d fun c => r_assign rfl (c.n 7 rfl), trivial⟩ ?_
   intro a29 w29 τ29 st29 f29
   have e2 : get a29 2 = (.bool ((bareF t.ch t.ng t.rows t.mn t.mx t.lz) && (decide ((t.kids.length : Int) = 0)))) := f29.v 8 rfl
   clear f29
   show Code.wp _ _ _ a29 w29
   refine wp_ret ?_
   repeat (first | with_reducible refine then_ret ?_ | with_reducible refine block_ret ?_)
   refine ret1 (fn := Try.f40) rfl st29.defers e2 ?_
   exact ⟨congrArg _ (congrArg _ (by unfold fieldsF; (repeat (first | rw [if_neg (by omega)] | rw [if_pos (by omega)])); (try rfl))), st29.ext0⟩
 have hd12 := hc11; try simp only [decide_eq_false_iff_not] at hd12
 refine wp_seq ?_
 refine region_St (bf := [0, 1]) (sp := [det _ 138 _, det _ 135 _]) [ib r0] mixed st28 (by kernel_rfl) ⟨r0, trivial⟩
  ⟨Ob.d fun c => r_eql rfl (c.p e8) rfl,
  Ob.d fun c => r_assign rfl (c.n 0 rfl), trivial⟩ ?_
 intro a30 w30 τ30 st30 f30
 obtain ⟨e1, e2, e8, -⟩ := f30.ks [(1, _), (2, _), (8, _)] ⟨e1, e2, e8, trivial⟩
 have e135 : get a30 135 = (.bool (decide (t.k = 9))) := f30.v 1 rfl
 replace r0 := f30.ib 0 rfl
 clear f30
 show Code.wp _ _ _ a30 w30
 refine wp_cond_split (t := decide (t.k = 9)) e135 (fun hc13 => ?_) (fun hc13 => ?_)
 · have hd13 := hc13; try simp only [decide_eq_true_eq] at hd13
   refine wp_skip ?_
   show Code.wp _ _ _ a30 w30
   refine wp_cond_true (e135.trans (congrArg _ hc13)) ?_
   refine wp_seq ?_
   refine region_St (bf := [0, 1, 3, 7, 15, 31, 63, 127, 255]) (sp := [det _ 141 _, det _ 142 _, det _ 143 _, gdet _ 144 _ _, gdet _ 145 _ _, gdet _ 146 _ _, gdet _ 147 _ _, det _ 148 _, det _ 2 _]) [ib r0] mixed st30 (by kernel_rfl) ⟨r0, trivial⟩
    ⟨Ob.d fun c => r_loadN (vs := [(.int .i64 (t.k)), (.string (t.ch)), (.bool (t.ng)), t.rv.v, (.int .i64 (t.mn)), (.int .i64 (t.mx)), (.bool (t.lz)), t.kv.v]) rfl Try.isAgg25 Try.sizeOf25 ((c.p e1).trans r0.ptr) rfl (fun _ _ hj => (c.ib 0 rfl).cell hj),
    Ob.c fun c => ⟨_, _, (e_call1 rfl rfl Try.call50 (c.n 0 rfl)), bare_c t.k t.ch t.ng t.rv.v t.rows t.mn t.mx t.lz t.kv.v rfl _ (hT.at (st30.ext.trans c.J.ext)).rows⟩,
    Ob.d fun c => r_move rfl (c.n 1 rfl),
    Ob.g 2 true rfl fun c hpc => r_fieldAddr rfl Try.underlying25 rfl rfl Try.sizeOf23 ((c.p e1).trans r0.ptr),
    Ob.g 2 true rfl fun c hpc => r_load1 rfl Try.isAgg23 (c.m 3 rfl hpc) ((c.ib 0 rfl).cell (j := 7) rfl),
    Ob.g 2 true rfl fun c hpc => r_len rfl Try.underlying23 (c.m 4 rfl hpc) (hT.at st30.ext).tl.sl.sl,
    Ob.g 2 true rfl fun c hpc => r_eql rfl (c.m 5 rfl hpc) rfl,
    Ob.d fun c => r_and rfl (c.n 2 rfl) (fun h => c.m 6 rfl h),
    Ob.d fun c => r_assign rfl (c.n 7 rfl), trivial⟩ ?_
   intro a31 w31 τ31 st31 f31
   have e2 : get a31 2 = (.bool ((bareF t.ch t.ng t.rows t.mn t.mx t.lz) && (decide ((t.kids.length : Int) = 0)))) := f31.v 8 rfl
   clear f31
   show Code.wp _ _ _ a31 w31
   refine wp_ret ?_
   repeat (first | with_reducible refine then_ret ?_ | with_reducible refine block_ret ?_)
   refine ret1 (fn := Try.f40) rfl st31.defers e2 ?_
   exact ⟨congrArg _ (congrArg _ (by unfold fieldsF; (repeat (first | rw [if_neg (by omega)] | rw [if_pos (by omega)])); (try rfl))), st31.ext0⟩
 have hd14 := hc13; try simp only [decide_eq_false_iff_not] at hd14
 refine wp_seq ?_
 refine region_St (bf := [0, 1]) (sp := [det _ 139 _, det _ 135 _]) [ib r0] mixed st30 (by kernel_rfl) ⟨r0, trivial⟩
  ⟨Ob.d fun c => r_eql rfl (c.p e8) rfl,
  Ob.d fun c => r_assign rfl (c.n 0 rfl), trivial⟩ ?_
 intro a32 w32 τ32 st32 f32
 obtain ⟨e1, e2, e8, -⟩ := f32.ks [(1, _), (2, _), (8, _)] ⟨e1, e2, e8, trivial⟩
 have e135 : get a32 135 = (.bool (decide (t.k = 10))) := f32.v 1 rfl
 replace r0 := f32.ib 0 rfl
 clear f32
 show Code.wp _ _ _ a32 w32
 refine wp_cond_split (t := decide (t.k = 10)) e135 (fun hc15 => ?_) (fun hc15 => ?_)
 · have hd15 := hc15; try simp only [decide_eq_true_eq] at hd15
   refine wp_skip ?_
   show Code.wp _ _ _ a32 w32
   refine wp_cond_true (e135.trans (congrArg _ hc15)) ?_
   refine wp_seq ?_
   refine region_St (bf := [0, 1, 3, 7, 15, 31, 63, 127, 255]) (sp := [det _ 141 _, det _ 142 _, det _ 143 _, gdet _ 144 _ _, gdet _ 145 _ _, gdet _ 146 _ _, gdet _ 147 _ _, det _ 148 _, det _ 2 _]) [ib r0] mixed st32 (by kernel_rfl) ⟨r0, trivial⟩
    ⟨Ob.d fun c => r_loadN (vs := [(.int .i64 (t.k)), (.string (t.ch)), (.bool (t.ng)), t.rv.v, (.int .i64 (t.mn)), (.int .i64 (t.mx)), (.bool (t.lz)), t.kv.v]) rfl Try.isAgg25 Try.sizeOf25 ((c.p e1).trans r0.ptr) rfl (fun _ _ hj => (c.ib 0 rfl).cell hj),
    Ob.c fun c => ⟨_, _, (e_call1 rfl rfl Try.call50 (c.n 0 rfl)), bare_c t.k t.ch t.ng t.rv.v t.rows t.mn t.mx t.lz t.kv.v rfl _ (hT.at (st32.ext.trans c.J.ext)).rows⟩,
    Ob.d fun c => r_move rfl (c.n 1 rfl),
    Ob.g 2 true rfl fun c hpc => r_fieldAddr rfl Try.underlying25 rfl rfl Try.sizeOf23 ((c.p e1).trans r0.ptr),
    Ob.g 2 true rfl fun c hpc => r_load1 rfl Try.isAgg23 (c.m 3 rfl hpc) ((c.ib 0 rfl).cell (j := 7) rfl),
    Ob.g 2 true rfl fun c hpc => r_len rfl Try.underlying23 (c.m 4 rfl hpc) (hT.at st32.ext).tl.sl.sl,
    Ob.g 2 true rfl fun c hpc => r_eql rfl (c.m 5 rfl hpc) rfl,
    Ob.d fun c => r_and rfl (c.n 2 rfl) (fun h => c.m 6 rfl h),
    Ob.d fun c => r_assign rfl (c.n 7 rfl), trivial⟩ ?_
   intro a33 w33 τ33 st33 f33
   have e2 : get a33 2 = (.bool ((bareF t.ch t.ng t.rows t.mn t.mx t.lz) && (decide ((t.kids.length : Int) = 0)))) := f33.v 8 rfl
   clear f33
   show Code.wp _ _ _ a33 w33
   refine wp_ret ?_
   repeat (first | with_reducible refine then_ret ?_ | with_reducible refine block_ret ?_)
   refine ret1 (fn := Try.f40) rfl st33.defers e2 ?_
   exact ⟨congrArg _ (congrArg _ (by unfold fieldsF; (repeat (first | rw [if_neg (by omega)] | rw [if_pos (by omega)])); (try rfl))), st33.ext0⟩
 have hd16 := hc15; try simp only [decide_eq_false_iff_not] at hd16
 refine region_St (bf := [0, 1]) (sp := [det _ 140 _, det _ 135 _]) [ib r0] mixed st32 (by kernel_rfl) ⟨r0, trivial⟩
  ⟨Ob.d fun c => r_eql rfl (c.p e8) rfl,
  Ob.d fun c => r_assign rfl (c.n 0 rfl), trivial⟩ ?_
 intro a34 w34 τ34 st34 f34
 obtain ⟨e1, e2, -⟩ := f34.ks [(1, _), (2, _)] ⟨e1, e2, trivial⟩
 have e135 : get a34 135 = (.bool (decide (t.k = 11))) := f34.v 1 rfl
 replace r0 := f34.ib 0 rfl
 clear f34
 show Code.wp _ _ _ a34 w34
 refine wp_cond_split (t := decide (t.k = 11)) e135 (fun hc17 => ?_) (fun hc17 => ?_)
 · have hd17 := hc17; try simp only [decide_eq_true_eq] at hd17
   refine wp_seq ?_
   refine region_St (bf := [0, 1, 3, 7, 15, 31, 63, 127, 255]) (sp := [det _ 141 _, det _ 142 _, det _ 143 _, gdet _ 144 _ _, gdet _ 145 _ _, gdet _ 146 _ _, gdet _ 147 _ _, det _ 148 _, det _ 2 _]) [ib r0] mixed st34 (by kernel_rfl) ⟨r0, trivial⟩
    ⟨Ob.d fun c => r_loadN (vs := [(.int .i64 (t.k)), (.string (t.ch)), (.bool (t.ng)), t.rv.v, (.int .i64 (t.mn)), (.int .i64 (t.mx)), (.bool (t.lz)), t.kv.v]) rfl Try.isAgg25 Try.sizeOf25 ((c.p e1).trans r0.ptr) rfl (fun _ _ hj => (c.ib 0 rfl).cell hj),
    Ob.c fun c => ⟨_, _, (e_call1 rfl rfl Try.call50 (c.n 0 rfl)), bare_c t.k t.ch t.ng t.rv.v t.rows t.mn t.mx t.lz t.kv.v rfl _ (hT.at (st34.ext.trans c.J.ext)).rows⟩,
    Ob.d fun c => r_move rfl (c.n 1 rfl),
    Ob.g 2 true rfl fun c hpc => r_fieldAddr rfl Try.underlying25 rfl rfl Try.sizeOf23 ((c.p e1).trans r0.ptr),
    Ob.g 2 true rfl fun c hpc => r_load1 rfl Try.isAgg23 (c.m 3 rfl hpc) ((c.ib 0 rfl).cell (j := 7) rfl),
    Ob.g 2 true rfl fun c hpc => r_len rfl Try.underlying23 (c.m 4 rfl hpc) (hT.at st34.ext).tl.sl.sl,
    Ob.g 2 true rfl fun c hpc => r_eql rfl (c.m 5 rfl hpc) rfl,
    Ob.d fun c => r_and rfl (c.n 2 rfl) (fun h => c.m 6 rfl h),
    Ob.d fun c => r_assign rfl (c.n 7 rfl), trivial⟩ ?_
   intro a35 w35 τ35 st35 f35
   have e2 : get a35 2 = (.bool ((bareF t.ch t.ng t.rows t.mn t.mx t.lz) && (decide ((t.kids.length : Int) = 0)))) := f35.v 8 rfl
   clear f35
   show Code.wp _ _ _ a35 w35
   refine wp_ret ?_
   repeat (first | with_reducible refine then_ret ?_ | with_reducible refine block_ret ?_)
   refine ret1 (fn := Try.f40) rfl st35.defers e2 ?_
   exact ⟨congrArg _ (congrArg _ (by unfold fieldsF; (repeat (first | rw [if_neg (by omega)] | rw [if_pos (by omega)])); (try rfl))), st35.ext0⟩
 have hd17 := hc17; try simp only [decide_eq_false_iff_not] at hd17
 refine wp_skip ?_
 show _
 show Code.wp _ _ _ a34 w34
 refine wp_seq ?_
 refine region_St (bf := [0]) (sp := [det _ 2 _]) [ib r0] mixed st34 (by kernel_rfl) ⟨r0, trivial⟩
  ⟨Ob.d fun c => r_assign rfl rfl, trivial⟩ ?_
 intro a36 w36 τ36 st36 f36
 have e2 : get a36 2 = (.bool (false)) := f36.v 0 rfl
 clear f36
 show Code.wp _ _ _ a36 w36
 refine wp_ret ?_
 repeat (first | with_reducible refine then_ret ?_ | with_reducible refine block_ret ?_)
 refine ret1 (fn := Try.f40) rfl st36.defers e2 ?_
 exact ⟨congrArg _ (congrArg _ (by unfold fieldsF; (repeat (first | rw [if_neg (by omega)] | rw [if_pos (by omega)])); (try rfl))), st36.ext0⟩
end B
end Go.Proofs.Ytocmchlhbniloaa
