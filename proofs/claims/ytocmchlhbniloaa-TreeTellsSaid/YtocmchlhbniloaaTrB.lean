/-
  Walks, printed by a program (gen.py): TrB.
-/
import Derived.Test.YtocmchlhbniloaaTreeF
set_option linter.unusedSimpArgs false
set_option linter.unusedVariables false
namespace Go.Proofs.Ytocmchlhbniloaa
namespace B
open Go.RowKit
open Srt
set_option maxRecDepth 100000 in
theorem parts_c_step (t : Tr) (ih : ∀ k ∈ t.kids, ∀ (w : World), TrS w k → partsF k ≤ 1000000000 → Calls Try.prog 19 #[k.v] w (fun e w' => e = .returned (.int .i64 (partsF k)) ∧ Ext none' w w')) (w : World) (hT : TrS w t) (hy0 : partsF t ≤ 1000000000) : Calls Try.prog 19 #[t.v] w (fun e w' => e = .returned (.int .i64 (partsF t)) ∧ Ext none' w w') := by
 refine enter (n := 19) Try.func19 rfl rfl (Nat.le_of_ble_eq_true rfl) ?_
 intro a0 τ0 ha st0
 have e0 : get a0 0 = (.agg #[(.int .i64 (t.k)), (.string (t.ch)), (.bool (t.ng)), t.rv.v, (.int .i64 (t.mn)), (.int .i64 (t.mx)), (.bool (t.lz)), t.kv.v]) := ha 0 _ rfl
 clear ha
 have hle := hT.kids.le
 have hf0 : ∀ q ∈ t.kids, 0 ≤ partsF q := fun q _ => by have := partsF_pos q; omega
 have hpe := partsF_eq t
 refine wp_seq ?_
 refine region_St (bf := [0, 0]) (sp := [box _ _ 0 1 [(.int .i64 (t.k)), (.string (t.ch)), (.bool (t.ng)), t.rv.v, (.int .i64 (t.mn)), (.int .i64 (t.mx)), (.bool (t.lz)), t.kv.v], det _ 2 _]) [] mixed st0 (by kernel_rfl) trivial
  ⟨Ob.box (v := (.agg #[(.int .i64 (t.k)), (.string (t.ch)), (.bool (t.ng)), t.rv.v, (.int .i64 (t.mn)), (.int .i64 (t.mx)), (.bool (t.lz)), t.kv.v])) rfl rfl rfl rfl rfl (fun _ _ _ _ c => (c.p e0)),
  Ob.d fun c => r_assign rfl rfl, trivial⟩ ?_
 intro a1 w1 τ1 st1 f1
 obtain ⟨b1x1, e1⟩ : ∃ b, get a1 1 = b := ⟨_, rfl⟩
 have e2 : get a1 2 = (.int .i64 (0)) := f1.v 1 rfl
 have r0 : boxR 25 [(.int .i64 (t.k)), (.string (t.ch)), (.bool (t.ng)), t.rv.v, (.int .i64 (t.mn)), (.int .i64 (t.mx)), (.bool (t.lz)), t.kv.v] (τ1 0) b1x1 w1 := f1.rb 0 e1 rfl
 clear f1
 show Code.wp _ _ _ a1 w1
 refine wp_seq ?_
 refine region_St (bf := [0]) (sp := [det _ 3 _]) [ib r0] mixed st1 (by kernel_rfl) ⟨r0, trivial⟩
  ⟨Ob.d fun c => r_assign rfl rfl, trivial⟩ ?_
 intro a2 w2 τ2 st2 f2
 obtain ⟨e1, e2, -⟩ := f2.ks [(1, _), (2, _)] ⟨e1, e2, trivial⟩
 have e3 : get a2 3 = (.int .i64 (1)) := f2.v 0 rfl
 replace r0 := f2.ib 0 rfl
 clear f2
 show Code.wp _ _ _ a2 w2
 refine wp_seq ?_
 refine wp_seq ?_
 refine region_St (bf := [0, 1, 3, 0]) (sp := [det _ 6 _, det _ 7 _, det _ 8 _, det _ 9 _]) [ib r0] mixed st2 (by kernel_rfl) ⟨r0, trivial⟩
  ⟨Ob.d fun c => r_fieldAddr rfl Try.underlying25 rfl rfl Try.sizeOf23 ((c.p e1).trans r0.ptr),
  Ob.d fun c => r_load1 rfl Try.isAgg23 (c.n 0 rfl) ((c.ib 0 rfl).cell (j := 7) rfl),
  Ob.d fun c => r_len rfl Try.underlying23 (c.n 1 rfl) (hT.at st2.ext).tl.sl.sl,
  Ob.d fun c => r_move rfl rfl, trivial⟩ ?_
 intro a3 w3 τ3 st3 f3
 obtain ⟨e2, e3, -⟩ := f3.ks [(2, _), (3, _)] ⟨e2, e3, trivial⟩
 have e7 : get a3 7 = t.kv.v := f3.v 1 rfl
 have e8 : get a3 8 = (.int .i64 ((t.kids.length : Int))) := f3.v 2 rfl
 have e9 : get a3 9 = (.int .i64 (0)) := f3.v 3 rfl
 clear f3
 show Code.wp _ _ _ a3 w3
 refine wp_block ?_
 refine wp_loop (fun a_ w_ => ∃ (k : Nat) (τ : Nat → Foot), (k ≤ t.kids.length) ∧
      St (Nw w) w 19 a_ w_ τ ∧
      get a_ 3 = (.int .i64 (1 + sumL ((t.kids.take k).map partsF))) ∧
      get a_ 9 = (.int .i64 ((k : Int))) ∧
      get a_ 2 = (.int .i64 (0)) ∧
      get a_ 7 = t.kv.v ∧
      get a_ 8 = (.int .i64 ((t.kids.length : Int)))) (fun a_ _ => t.kids.length - (intOf (get a_ 9)).toNat) ?_ ?_
 · refine ⟨0, τ3, ?_, st3, (e3.trans (int_eq (by first | omega | rfl | (rw [sum_step (by omega)]; omega)))), (e9.trans (int_eq (by first | omega | rfl | (rw [sum_step (by omega)]; omega)))), e2, e7, e8⟩
   · omega
 intro a4 w4 hI
 obtain ⟨k, τ4, q0, st4, e3, e9, e2, e7, e8⟩ := hI
 have hsl := sum_le (f := partsF) hf0 k
 have hss : k < t.kids.length → partsF (nth t.kids (k : Int)) ≤ sumL (t.kids.map partsF) ∧ sumL ((t.kids.take (k + 1)).map partsF) = sumL ((t.kids.take k).map partsF) + partsF (nth t.kids (k : Int)) := fun h_ => ⟨sum_mem hf0 (nth_memI (by omega) (by omega)), sum_step h_⟩
 have hs2 := sum_le (f := partsF) hf0 (k + 1)
 have m9 := e9
 refine wp_seq ?_
 refine region_St (bf := [0]) (sp := [det _ 10 _]) [] mixed st4 (by kernel_rfl) trivial
  ⟨Ob.d fun c => r_lss rfl (c.p e9) (c.p e8), trivial⟩ ?_
 intro a5 w5 τ5 st5 f5
 obtain ⟨e2, e3, e7, e8, e9, -⟩ := f5.ks [(2, _), (3, _), (7, _), (8, _), (9, _)] ⟨e2, e3, e7, e8, e9, trivial⟩
 have e10 : get a5 10 = (.bool (decide ((k : Int) < (t.kids.length : Int)))) := f5.v 0 rfl
 clear f5
 show Code.wp _ _ _ a5 w5
 refine wp_seq ?_
 refine wp_cond_split (t := decide ((k : Int) < (t.kids.length : Int))) e10 (fun hc1 => ?_) (fun hc1 => ?_)
 · try simp only [decide_eq_true_eq] at hc1
   refine wp_skip ?_
   show Code.wp _ _ _ a5 w5
   refine wp_seq ?_
   refine wp_block ?_
   refine wp_seq ?_
   refine region_St (bf := [0, 1, 0, 7]) (sp := [det _ 11 _, det _ 12 _, box _ _ 0 5 [(.int .i64 (0)), (.string ((⟨#[]⟩ : ByteArray))), (.bool (false)), (.slice none 0 0), (.int .i64 (0)), (.int .i64 (0)), (.bool (false)), (.slice none 0 0)], box _ _ 0 5 [(.int .i64 ((nth t.kids ((k : Int))).k)), (.string ((nth t.kids ((k : Int))).ch)), (.bool ((nth t.kids ((k : Int))).ng)), (nth t.kids ((k : Int))).rv.v, (.int .i64 ((nth t.kids ((k : Int))).mn)), (.int .i64 ((nth t.kids ((k : Int))).mx)), (.bool ((nth t.kids ((k : Int))).lz)), (nth t.kids ((k : Int))).kv.v]]) [] mixed st5 (by kernel_rfl) trivial
    ⟨Ob.d fun c => r_indexAddr rfl Try.underlying23 Try.sizeOf25 (c.p e7) (hT.at st5.ext).tl.sl.sl (c.p e9) (by omega) (by omega),
    Ob.d fun c => r_loadN (vs := [(.int .i64 ((nth t.kids ((k : Int))).k)), (.string ((nth t.kids ((k : Int))).ch)), (.bool ((nth t.kids ((k : Int))).ng)), (nth t.kids ((k : Int))).rv.v, (.int .i64 ((nth t.kids ((k : Int))).mn)), (.int .i64 ((nth t.kids ((k : Int))).mx)), (.bool ((nth t.kids ((k : Int))).lz)), (nth t.kids ((k : Int))).kv.v]) rfl Try.isAgg25 Try.sizeOf25 (c.n 0 rfl) rfl (fun _ _ hj => ((hT.at (st5.ext.trans c.J.ext)).tl.sl).elem (nth_some (i := (k : Int)) (by omega) (by omega)) hj),
    Ob.alloc rfl rfl rfl rfl Try.zeroValue25 rfl,
    Ob.storeBox (off := 0) (v := (.agg #[(.int .i64 ((nth t.kids ((k : Int))).k)), (.string ((nth t.kids ((k : Int))).ch)), (.bool ((nth t.kids ((k : Int))).ng)), (nth t.kids ((k : Int))).rv.v, (.int .i64 ((nth t.kids ((k : Int))).mn)), (.int .i64 ((nth t.kids ((k : Int))).mx)), (.bool ((nth t.kids ((k : Int))).lz)), (nth t.kids ((k : Int))).kv.v])) rfl rfl rfl rfl Try.sizeOf25 (Nat.le_of_ble_eq_true rfl) (by simp [Value.cells, Value.oneCell', Sv.v]) rfl (fun _ _ _ _ c => ⟨c.rb 2 rfl, (c.rb 2 rfl).ptr, (c.n 1 rfl)⟩), trivial⟩ ?_
   intro a6 w6 τ6 st6 f6
   obtain ⟨b6x5, e5⟩ : ∃ b, get a6 5 = b := ⟨_, rfl⟩
   obtain ⟨e2, e3, e7, e8, e9, e10, -⟩ := f6.ks [(2, _), (3, _), (7, _), (8, _), (9, _), (10, _)] ⟨e2, e3, e7, e8, e9, e10, trivial⟩
   have r0 : boxR 25 [(.int .i64 ((nth t.kids ((k : Int))).k)), (.string ((nth t.kids ((k : Int))).ch)), (.bool ((nth t.kids ((k : Int))).ng)), (nth t.kids ((k : Int))).rv.v, (.int .i64 ((nth t.kids ((k : Int))).mn)), (.int .i64 ((nth t.kids ((k : Int))).mx)), (.bool ((nth t.kids ((k : Int))).lz)), (nth t.kids ((k : Int))).kv.v] (τ6 0) b6x5 w6 := f6.rb 3 e5 rfl
   clear f6
   show Code.wp _ _ _ a6 w6
   refine region_St (bf := [0, 0, 2, 7, 15]) (sp := [det _ 13 _, det _ 14 _, det _ 15 _, det _ 16 _, det _ 3 _]) [ib r0] mixed st6 (by kernel_rfl) ⟨r0, trivial⟩
    ⟨Ob.d fun c => r_move rfl (c.p e3),
    Ob.d fun c => r_loadN (vs := [(.int .i64 ((nth t.kids ((k : Int))).k)), (.string ((nth t.kids ((k : Int))).ch)), (.bool ((nth t.kids ((k : Int))).ng)), (nth t.kids ((k : Int))).rv.v, (.int .i64 ((nth t.kids ((k : Int))).mn)), (.int .i64 ((nth t.kids ((k : Int))).mx)), (.bool ((nth t.kids ((k : Int))).lz)), (nth t.kids ((k : Int))).kv.v]) rfl Try.isAgg25 Try.sizeOf25 ((c.p e5).trans r0.ptr) rfl (fun _ _ hj => (c.ib 0 rfl).cell hj),
    Ob.c fun c => ⟨_, _, (e_call1 rfl rfl Try.call19 (c.n 1 rfl)), ih _ (nth_memI (by omega) (by omega)) _ ((hT.at (st6.ext.trans c.J.ext)).tl.el (by omega) (by omega)) (by omega)⟩,
    Ob.d fun c => r_add rfl (c.n 0 rfl) (c.n 2 rfl) (by omega),
    Ob.d fun c => r_assign rfl (c.n 3 rfl), trivial⟩ ?_
   intro a7 w7 τ7 st7 f7
   obtain ⟨e2, e5, e7, e8, e9, e10, -⟩ := f7.ks [(2, _), (5, _), (7, _), (8, _), (9, _), (10, _)] ⟨e2, e5, e7, e8, e9, e10, trivial⟩
   have e3 : get a7 3 = (.int .i64 (1 + sumL ((t.kids.take k).map partsF) + (partsF (nth t.kids ((k : Int)))))) := f7.v 4 rfl
   replace r0 := f7.ib 0 rfl
   clear f7
   show _
   show Code.wp _ _ _ a7 w7
   refine region_St (bf := [0, 1]) (sp := [det _ 17 _, det _ 9 _]) [ib r0] mixed st7 (by kernel_rfl) ⟨r0, trivial⟩
    ⟨Ob.d fun c => r_add rfl (c.p e9) rfl (by omega),
    Ob.d fun c => r_move rfl (c.n 0 rfl), trivial⟩ ?_
   intro a8 w8 τ8 st8 f8
   obtain ⟨e2, e3, e5, e7, e8, e10, -⟩ := f8.ks [(2, _), (3, _), (5, _), (7, _), (8, _), (10, _)] ⟨e2, e3, e5, e7, e8, e10, trivial⟩
   have e9 : get a8 9 = (.int .i64 ((k : Int) + 1)) := f8.v 1 rfl
   replace r0 := f8.ib 0 rfl
   clear f8
   refine ⟨⟨k + 1, τ8, ?_, st8, (e3.trans (int_eq (by first | omega | rfl | (rw [sum_step (by omega)]; omega)))), (e9.trans (int_eq (by first | omega | rfl | (rw [sum_step (by omega)]; omega)))), e2, e7, e8⟩, ?_⟩
   · omega
   · simp only [m9, e9, intOf]; omega
 try simp only [decide_eq_false_iff_not, Int.not_lt] at hc1
 refine wp_exit ?_
 repeat (with_reducible refine then_exit ?_)
 refine exit_here ?_
 show Code.wp _ _ _ a5 w5
 refine wp_seq ?_
 refine region_St (bf := [0, 1]) (sp := [det _ 18 _, det _ 2 _]) [] mixed st5 (by kernel_rfl) trivial
  ⟨Ob.d fun c => r_move rfl (c.p e3),
  Ob.d fun c => r_assign rfl (c.n 0 rfl), trivial⟩ ?_
 intro a9 w9 τ9 st9 f9
 have e2 : get a9 2 = (.int .i64 (1 + sumL ((t.kids.take k).map partsF))) := f9.v 1 rfl
 clear f9
 show Code.wp _ _ _ a9 w9
 refine wp_ret ?_
 repeat (first | with_reducible refine then_ret ?_ | with_reducible refine block_ret ?_)
 refine ret1 (fn := Try.f19) rfl st9.defers e2 ?_
 have htk : sumL ((t.kids.take k).map partsF) = sumL (t.kids.map partsF) := by rw [List.take_of_length_le (by omega)]
 exact ⟨congrArg _ (int_eq (by omega)), st9.ext0⟩

theorem parts_c (t : Tr) : ∀ (w : World), TrS w t → partsF t ≤ 1000000000 → Calls Try.prog 19 #[t.v] w (fun e w' => e = .returned (.int .i64 (partsF t)) ∧ Ext none' w w') := Tr.ind (P := fun t => ∀ (w : World), TrS w t → partsF t ≤ 1000000000 → Calls Try.prog 19 #[t.v] w (fun e w' => e = .returned (.int .i64 (partsF t)) ∧ Ext none' w w')) parts_c_step t

set_option maxRecDepth 100000 in
theorem refParts_c_step (t : Tr) (ih : ∀ k ∈ t.kids, ∀ (w : World), TrS w k → partsF k ≤ 1000000000 → Calls Try.prog 25 #[k.v] w (fun e w' => e = .returned (.int .i64 (partsF k)) ∧ Ext none' w w')) (w : World) (hT : TrS w t) (hy0 : partsF t ≤ 1000000000) : Calls Try.prog 25 #[t.v] w (fun e w' => e = .returned (.int .i64 (partsF t)) ∧ Ext none' w w') := by
 refine enter (n := 21) Try.func25 rfl rfl (Nat.le_of_ble_eq_true rfl) ?_
 intro a0 τ0 ha st0
 have e0 : get a0 0 = (.agg #[(.int .i64 (t.k)), (.string (t.ch)), (.bool (t.ng)), t.rv.v, (.int .i64 (t.mn)), (.int .i64 (t.mx)), (.bool (t.lz)), t.kv.v]) := ha 0 _ rfl
 clear ha
 have hle := hT.kids.le
 have hf0 : ∀ q ∈ t.kids, 0 ≤ partsF q := fun q _ => by have := partsF_pos q; omega
 have hpe := partsF_eq t
 refine wp_seq ?_
 refine region_St (bf := [0, 0]) (sp := [box _ _ 0 1 [(.int .i64 (t.k)), (.string (t.ch)), (.bool (t.ng)), t.rv.v, (.int .i64 (t.mn)), (.int .i64 (t.mx)), (.bool (t.lz)), t.kv.v], det _ 2 _]) [] mixed st0 (by kernel_rfl) trivial
  ⟨Ob.box (v := (.agg #[(.int .i64 (t.k)), (.string (t.ch)), (.bool (t.ng)), t.rv.v, (.int .i64 (t.mn)), (.int .i64 (t.mx)), (.bool (t.lz)), t.kv.v])) rfl rfl rfl rfl rfl (fun _ _ _ _ c => (c.p e0)),
  Ob.d fun c => r_assign rfl rfl, trivial⟩ ?_
 intro a1 w1 τ1 st1 f1
 obtain ⟨b1x1, e1⟩ : ∃ b, get a1 1 = b := ⟨_, rfl⟩
 have e2 : get a1 2 = (.int .i64 (0)) := f1.v 1 rfl
 have r0 : boxR 25 [(.int .i64 (t.k)), (.string (t.ch)), (.bool (t.ng)), t.rv.v, (.int .i64 (t.mn)), (.int .i64 (t.mx)), (.bool (t.lz)), t.kv.v] (τ1 0) b1x1 w1 := f1.rb 0 e1 rfl
 clear f1
 show Code.wp _ _ _ a1 w1
 refine wp_seq ?_
 refine region_St (bf := [0]) (sp := [det _ 3 _]) [ib r0] mixed st1 (by kernel_rfl) ⟨r0, trivial⟩
  ⟨Ob.d fun c => r_assign rfl rfl, trivial⟩ ?_
 intro a2 w2 τ2 st2 f2
 obtain ⟨e1, e2, -⟩ := f2.ks [(1, _), (2, _)] ⟨e1, e2, trivial⟩
 have e3 : get a2 3 = (.int .i64 (1)) := f2.v 0 rfl
 replace r0 := f2.ib 0 rfl
 clear f2
 show Code.wp _ _ _ a2 w2
 refine wp_seq ?_
 refine wp_seq ?_
 refine region_St (bf := [0]) (sp := [det _ 4 _]) [ib r0] mixed st2 (by kernel_rfl) ⟨r0, trivial⟩
  ⟨Ob.d fun c => r_assign rfl rfl, trivial⟩ ?_
 intro a3 w3 τ3 st3 f3
 obtain ⟨e1, e2, e3, -⟩ := f3.ks [(1, _), (2, _), (3, _)] ⟨e1, e2, e3, trivial⟩
 have e4 : get a3 4 = (.int .i64 (0)) := f3.v 0 rfl
 replace r0 := f3.ib 0 rfl
 clear f3
 show Code.wp _ _ _ a3 w3
 refine wp_block ?_
 refine wp_loop (fun a_ w_ => ∃ (k : Nat) (τ : Nat → Foot), (k ≤ t.kids.length) ∧
      St (Nw w) w 21 a_ w_ τ ∧
      get a_ 3 = (.int .i64 (1 + sumL ((t.kids.take k).map partsF))) ∧
      get a_ 4 = (.int .i64 ((k : Int))) ∧
      get a_ 1 = b1x1 ∧
      get a_ 2 = (.int .i64 (0)) ∧
      boxR 25 [(.int .i64 (t.k)), (.string (t.ch)), (.bool (t.ng)), t.rv.v, (.int .i64 (t.mn)), (.int .i64 (t.mx)), (.bool (t.lz)), t.kv.v] (τ 0) b1x1 w_) (fun a_ _ => t.kids.length - (intOf (get a_ 4)).toNat) ?_ ?_
 · refine ⟨0, τ3, ?_, st3, (e3.trans (int_eq (by first | omega | rfl | (rw [sum_step (by omega)]; omega)))), (e4.trans (int_eq (by first | omega | rfl | (rw [sum_step (by omega)]; omega)))), e1, e2, r0⟩
   · omega
 intro a4 w4 hI
 obtain ⟨k, τ4, q0, st4, e3, e4, e1, e2, r0⟩ := hI
 have hsl := sum_le (f := partsF) hf0 k
 have hss : k < t.kids.length → partsF (nth t.kids (k : Int)) ≤ sumL (t.kids.map partsF) ∧ sumL ((t.kids.take (k + 1)).map partsF) = sumL ((t.kids.take k).map partsF) + partsF (nth t.kids (k : Int)) := fun h_ => ⟨sum_mem hf0 (nth_memI (by omega) (by omega)), sum_step h_⟩
 have hs2 := sum_le (f := partsF) hf0 (k + 1)
 have m4 := e4
 refine wp_seq ?_
 refine wp_seq ?_
 refine region_St (bf := [0, 0, 2, 6, 15]) (sp := [det _ 5 _, det _ 6 _, det _ 7 _, det _ 8 _, det _ 9 _]) [ib r0] mixed st4 (by kernel_rfl) ⟨r0, trivial⟩
  ⟨Ob.d fun c => r_move rfl (c.p e4),
  Ob.d fun c => r_fieldAddr rfl Try.underlying25 rfl rfl Try.sizeOf23 ((c.p e1).trans r0.ptr),
  Ob.d fun c => r_load1 rfl Try.isAgg23 (c.n 1 rfl) ((c.ib 0 rfl).cell (j := 7) rfl),
  Ob.d fun c => r_len rfl Try.underlying23 (c.n 2 rfl) (hT.at st4.ext).tl.sl.sl,
  Ob.d fun c => r_lss rfl (c.n 0 rfl) (c.n 3 rfl), trivial⟩ ?_
 intro a5 w5 τ5 st5 f5
 obtain ⟨e1, e2, e3, e4, -⟩ := f5.ks [(1, _), (2, _), (3, _), (4, _)] ⟨e1, e2, e3, e4, trivial⟩
 have e9 : get a5 9 = (.bool (decide ((k : Int) < (t.kids.length : Int)))) := f5.v 4 rfl
 replace r0 := f5.ib 0 rfl
 clear f5
 show Code.wp _ _ _ a5 w5
 refine wp_cond_split (t := decide ((k : Int) < (t.kids.length : Int))) e9 (fun hc1 => ?_) (fun hc1 => ?_)
 · try simp only [decide_eq_true_eq] at hc1
   refine wp_skip ?_
   show Code.wp _ _ _ a5 w5
   refine wp_seq ?_
   refine wp_block ?_
   refine region_St (bf := [0, 0, 2, 0, 14, 30, 62, 127, 255]) (sp := [det _ 12 _, det _ 13 _, det _ 14 _, det _ 15 _, det _ 16 _, det _ 17 _, det _ 18 _, det _ 19 _, det _ 3 _]) [ib r0] mixed st5 (by kernel_rfl) ⟨r0, trivial⟩
    ⟨Ob.d fun c => r_move rfl (c.p e3),
    Ob.d fun c => r_fieldAddr rfl Try.underlying25 rfl rfl Try.sizeOf23 ((c.p e1).trans r0.ptr),
    Ob.d fun c => r_load1 rfl Try.isAgg23 (c.n 1 rfl) ((c.ib 0 rfl).cell (j := 7) rfl),
    Ob.d fun c => r_move rfl (c.p e4),
    Ob.d fun c => r_indexAddr rfl Try.underlying23 Try.sizeOf25 (c.n 2 rfl) (hT.at st5.ext).tl.sl.sl (c.n 3 rfl) (by omega) (by omega),
    Ob.d fun c => r_loadN (vs := [(.int .i64 ((nth t.kids ((k : Int))).k)), (.string ((nth t.kids ((k : Int))).ch)), (.bool ((nth t.kids ((k : Int))).ng)), (nth t.kids ((k : Int))).rv.v, (.int .i64 ((nth t.kids ((k : Int))).mn)), (.int .i64 ((nth t.kids ((k : Int))).mx)), (.bool ((nth t.kids ((k : Int))).lz)), (nth t.kids ((k : Int))).kv.v]) rfl Try.isAgg25 Try.sizeOf25 (c.n 4 rfl) rfl (fun _ _ hj => ((hT.at (st5.ext.trans c.J.ext)).tl.sl).elem (nth_some (i := (k : Int)) (by omega) (by omega)) hj),
    Ob.c fun c => ⟨_, _, (e_call1 rfl rfl Try.call25 (c.n 5 rfl)), ih _ (nth_memI (by omega) (by omega)) _ ((hT.at (st5.ext.trans c.J.ext)).tl.el (by omega) (by omega)) (by omega)⟩,
    Ob.d fun c => r_add rfl (c.n 0 rfl) (c.n 6 rfl) (by omega),
    Ob.d fun c => r_assign rfl (c.n 7 rfl), trivial⟩ ?_
   intro a6 w6 τ6 st6 f6
   obtain ⟨e1, e2, e4, e9, -⟩ := f6.ks [(1, _), (2, _), (4, _), (9, _)] ⟨e1, e2, e4, e9, trivial⟩
   have e3 : get a6 3 = (.int .i64 (1 + sumL ((t.kids.take k).map partsF) + (partsF (nth t.kids ((k : Int)))))) := f6.v 8 rfl
   replace r0 := f6.ib 0 rfl
   clear f6
   show _
   show Code.wp _ _ _ a6 w6
   refine region_St (bf := [0, 1, 3]) (sp := [det _ 10 _, det _ 11 _, det _ 4 _]) [ib r0] mixed st6 (by kernel_rfl) ⟨r0, trivial⟩
    ⟨Ob.d fun c => r_move rfl (c.p e4),
    Ob.d fun c => r_add rfl (c.n 0 rfl) rfl (by omega),
    Ob.d fun c => r_assign rfl (c.n 1 rfl), trivial⟩ ?_
   intro a7 w7 τ7 st7 f7
   obtain ⟨e1, e2, e3, e9, -⟩ := f7.ks [(1, _), (2, _), (3, _), (9, _)] ⟨e1, e2, e3, e9, trivial⟩
   have e4 : get a7 4 = (.int .i64 ((k : Int) + 1)) := f7.v 2 rfl
   replace r0 := f7.ib 0 rfl
   clear f7
   refine ⟨⟨k + 1, τ7, ?_, st7, (e3.trans (int_eq (by first | omega | rfl | (rw [sum_step (by omega)]; omega)))), (e4.trans (int_eq (by first | omega | rfl | (rw [sum_step (by omega)]; omega)))), e1, e2, r0⟩, ?_⟩
   · omega
   · simp only [m4, e4, intOf]; omega
 try simp only [decide_eq_false_iff_not, Int.not_lt] at hc1
 refine wp_exit ?_
 repeat (with_reducible refine then_exit ?_)
 refine exit_here ?_
 show Code.wp _ _ _ a5 w5
 refine wp_seq ?_
 refine region_St (bf := [0, 1]) (sp := [det _ 20 _, det _ 2 _]) [ib r0] mixed st5 (by kernel_rfl) ⟨r0, trivial⟩
  ⟨Ob.d fun c => r_move rfl (c.p e3),
  Ob.d fun c => r_assign rfl (c.n 0 rfl), trivial⟩ ?_
 intro a8 w8 τ8 st8 f8
 have e2 : get a8 2 = (.int .i64 (1 + sumL ((t.kids.take k).map partsF))) := f8.v 1 rfl
 clear f8
 show Code.wp _ _ _ a8 w8
 refine wp_ret ?_
 repeat (first | with_reducible refine then_ret ?_ | with_reducible refine block_ret ?_)
 refine ret1 (fn := Try.f25) rfl st8.defers e2 ?_
 have htk : sumL ((t.kids.take k).map partsF) = sumL (t.kids.map partsF) := by rw [List.take_of_length_le (by omega)]
 exact ⟨congrArg _ (int_eq (by omega)), st8.ext0⟩

theorem refParts_c (t : Tr) : ∀ (w : World), TrS w t → partsF t ≤ 1000000000 → Calls Try.prog 25 #[t.v] w (fun e w' => e = .returned (.int .i64 (partsF t)) ∧ Ext none' w w') := Tr.ind (P := fun t => ∀ (w : World), TrS w t → partsF t ≤ 1000000000 → Calls Try.prog 25 #[t.v] w (fun e w' => e = .returned (.int .i64 (partsF t)) ∧ Ext none' w w')) refParts_c_step t

set_option maxRecDepth 100000 in
theorem groups_c_step (t : Tr) (ih : ∀ k ∈ t.kids, ∀ (w : World), TrS w k → partsF k ≤ 1000000000 → Calls Try.prog 26 #[k.v] w (fun e w' => e = .returned (.int .i64 (groupsF k)) ∧ Ext none' w w')) (w : World) (hT : TrS w t) (hy0 : partsF t ≤ 1000000000) : Calls Try.prog 26 #[t.v] w (fun e w' => e = .returned (.int .i64 (groupsF t)) ∧ Ext none' w w') := by
 refine enter (n := 22) Try.func26 rfl rfl (Nat.le_of_ble_eq_true rfl) ?_
 intro a0 τ0 ha st0
 have e0 : get a0 0 = (.agg #[(.int .i64 (t.k)), (.string (t.ch)), (.bool (t.ng)), t.rv.v, (.int .i64 (t.mn)), (.int .i64 (t.mx)), (.bool (t.lz)), t.kv.v]) := ha 0 _ rfl
 clear ha
 have hle := hT.kids.le
 have hf0 : ∀ q ∈ t.kids, 0 ≤ groupsF q := fun q _ => (groupsF_bound q).1
 have hf1 : ∀ q ∈ t.kids, 0 ≤ partsF q := fun q _ => by have := partsF_pos q; omega
 have hgb := groupsF_bound t
 have hpe := groupsF_eq t
 have hpm : ∀ k : Nat, k < t.kids.length → partsF (nth t.kids (k : Int)) ≤ 1000000000 := fun k h_ => by
   have h1_ := sum_mem hf1 (nth_memI (xs := t.kids) (i := (k : Int)) (by omega) (by omega))
   have h2_ := partsF_eq t
   omega
 refine wp_seq ?_
 refine region_St (bf := [0, 0]) (sp := [box _ _ 0 1 [(.int .i64 (t.k)), (.string (t.ch)), (.bool (t.ng)), t.rv.v, (.int .i64 (t.mn)), (.int .i64 (t.mx)), (.bool (t.lz)), t.kv.v], det _ 2 _]) [] mixed st0 (by kernel_rfl) trivial
  ⟨Ob.box (v := (.agg #[(.int .i64 (t.k)), (.string (t.ch)), (.bool (t.ng)), t.rv.v, (.int .i64 (t.mn)), (.int .i64 (t.mx)), (.bool (t.lz)), t.kv.v])) rfl rfl rfl rfl rfl (fun _ _ _ _ c => (c.p e0)),
  Ob.d fun c => r_assign rfl rfl, trivial⟩ ?_
 intro a1 w1 τ1 st1 f1
 obtain ⟨b1x1, e1⟩ : ∃ b, get a1 1 = b := ⟨_, rfl⟩
 have e2 : get a1 2 = (.int .i64 (0)) := f1.v 1 rfl
 have r0 : boxR 25 [(.int .i64 (t.k)), (.string (t.ch)), (.bool (t.ng)), t.rv.v, (.int .i64 (t.mn)), (.int .i64 (t.mx)), (.bool (t.lz)), t.kv.v] (τ1 0) b1x1 w1 := f1.rb 0 e1 rfl
 clear f1
 show Code.wp _ _ _ a1 w1
 refine wp_seq ?_
 refine region_St (bf := [0]) (sp := [det _ 3 _]) [ib r0] mixed st1 (by kernel_rfl) ⟨r0, trivial⟩
  ⟨Ob.d fun c => r_assign rfl rfl, trivial⟩ ?_
 intro a2 w2 τ2 st2 f2
 obtain ⟨e1, e2, -⟩ := f2.ks [(1, _), (2, _)] ⟨e1, e2, trivial⟩
 have e3 : get a2 3 = (.int .i64 (0)) := f2.v 0 rfl
 replace r0 := f2.ib 0 rfl
 clear f2
 show Code.wp _ _ _ a2 w2
 refine wp_seq ?_
 refine wp_seq ?_
 refine region_St (bf := [0, 1, 3]) (sp := [det _ 6 _, det _ 7 _, det _ 8 _]) [ib r0] mixed st2 (by kernel_rfl) ⟨r0, trivial⟩
  ⟨Ob.d fun c => r_fieldAddr rfl Try.underlying25 rfl rfl Try.sizeOf3 ((c.p e1).trans r0.ptr),
  Ob.d fun c => r_load1 rfl Try.isAgg3 (c.n 0 rfl) ((c.ib 0 rfl).cell (j := 0) rfl),
  Ob.d fun c => r_eql rfl (c.n 1 rfl) rfl, trivial⟩ ?_
 intro a3 w3 τ3 st3 f3
 obtain ⟨e1, e2, e3, -⟩ := f3.ks [(1, _), (2, _), (3, _)] ⟨e1, e2, e3, trivial⟩
 have e8 : get a3 8 = (.bool (decide (t.k = 5))) := f3.v 2 rfl
 replace r0 := f3.ib 0 rfl
 clear f3
 show Code.wp _ _ _ a3 w3
 refine wp_cond_split (t := decide (t.k = 5)) e8 (fun hc1 => ?_) (fun hc1 => ?_)
 · try simp only [decide_eq_true_eq] at hc1
   refine region_St (bf := [0]) (sp := [det _ 3 _]) [ib r0] mixed st3 (by kernel_rfl) ⟨r0, trivial⟩
    ⟨Ob.d fun c => r_assign rfl rfl, trivial⟩ ?_
   intro a4 w4 τ4 st4 f4
   obtain ⟨e1, e2, -⟩ := f4.ks [(1, _), (2, _)] ⟨e1, e2, trivial⟩
   have e3 : get a4 3 = (.int .i64 (1)) := f4.v 0 rfl
   replace r0 := f4.ib 0 rfl
   clear f4
   show Code.wp _ _ _ a4 w4
   refine wp_seq ?_
   refine wp_seq ?_
   refine region_St (bf := [0, 1, 3, 0]) (sp := [det _ 9 _, det _ 10 _, det _ 11 _, det _ 12 _]) [ib r0] mixed st4 (by kernel_rfl) ⟨r0, trivial⟩
    ⟨Ob.d fun c => r_fieldAddr rfl Try.underlying25 rfl rfl Try.sizeOf23 ((c.p e1).trans r0.ptr),
    Ob.d fun c => r_load1 rfl Try.isAgg23 (c.n 0 rfl) ((c.ib 0 rfl).cell (j := 7) rfl),
    Ob.d fun c => r_len rfl Try.underlying23 (c.n 1 rfl) (hT.at st4.ext).tl.sl.sl,
    Ob.d fun c => r_move rfl rfl, trivial⟩ ?_
   intro a5 w5 τ5 st5 f5
   obtain ⟨e2, e3, -⟩ := f5.ks [(2, _), (3, _)] ⟨e2, e3, trivial⟩
   have e10 : get a5 10 = t.kv.v := f5.v 1 rfl
   have e11 : get a5 11 = (.int .i64 ((t.kids.length : Int))) := f5.v 2 rfl
   have e12 : get a5 12 = (.int .i64 (0)) := f5.v 3 rfl
   clear f5
   show Code.wp _ _ _ a5 w5
   refine wp_block ?_
   refine wp_loop (fun a_ w_ => ∃ (k : Nat) (τ : Nat → Foot), (k ≤ t.kids.length) ∧
          St (Nw w) w 22 a_ w_ τ ∧
          get a_ 3 = (.int .i64 ((if t.k = 5 then 1 else 0) + sumL ((t.kids.take k).map groupsF))) ∧
          get a_ 12 = (.int .i64 ((k : Int))) ∧
          get a_ 2 = (.int .i64 (0)) ∧
          get a_ 10 = t.kv.v ∧
          get a_ 11 = (.int .i64 ((t.kids.length : Int)))) (fun a_ _ => t.kids.length - (intOf (get a_ 12)).toNat) ?_ ?_
   · refine ⟨0, τ5, ?_, st5, (e3.trans (int_eq (by first | omega | (rw [if_pos (by assumption)]; rfl) | (rw [if_neg (by assumption)]; rfl)))), (e12.trans (int_eq (by first | omega | (rw [if_pos (by assumption)]; rfl) | (rw [if_neg (by assumption)]; rfl)))), e2, e10, e11⟩
     · omega
   intro a6 w6 hI
   obtain ⟨k, τ6, q0, st6, e3, e12, e2, e10, e11⟩ := hI
   have hsl := sum_le (f := groupsF) hf0 k
   have hss : k < t.kids.length → groupsF (nth t.kids (k : Int)) ≤ sumL (t.kids.map groupsF) ∧ sumL ((t.kids.take (k + 1)).map groupsF) = sumL ((t.kids.take k).map groupsF) + groupsF (nth t.kids (k : Int)) := fun h_ => ⟨sum_mem hf0 (nth_memI (by omega) (by omega)), sum_step h_⟩
   have hs2 := sum_le (f := groupsF) hf0 (k + 1)
   have hpk := hpm k
   have hsp : (0 : Int) ≤ (if t.k = 5 then 1 else 0) ∧ (if t.k = 5 then (1 : Int) else 0) ≤ 1 := by split <;> omega
   have m12 := e12
   refine wp_seq ?_
   refine region_St (bf := [0]) (sp := [det _ 13 _]) [] mixed st6 (by kernel_rfl) trivial
    ⟨Ob.d fun c => r_lss rfl (c.p e12) (c.p e11), trivial⟩ ?_
   intro a7 w7 τ7 st7 f7
   obtain ⟨e2, e3, e10, e11, e12, -⟩ := f7.ks [(2, _), (3, _), (10, _), (11, _), (12, _)] ⟨e2, e3, e10, e11, e12, trivial⟩
   have e13 : get a7 13 = (.bool (decide ((k : Int) < (t.kids.length : Int)))) := f7.v 0 rfl
   clear f7
   show Code.wp _ _ _ a7 w7
   refine wp_seq ?_
   refine wp_cond_split (t := decide ((k : Int) < (t.kids.length : Int))) e13 (fun hc2 => ?_) (fun hc2 => ?_)
   · try simp only [decide_eq_true_eq] at hc2
     refine wp_skip ?_
     show Code.wp _ _ _ a7 w7
     refine wp_seq ?_
     refine wp_block ?_
     refine wp_seq ?_
     refine region_St (bf := [0, 1, 0, 7]) (sp := [det _ 14 _, det _ 15 _, box _ _ 0 5 [(.int .i64 (0)), (.string ((⟨#[]⟩ : ByteArray))), (.bool (false)), (.slice none 0 0), (.int .i64 (0)), (.int .i64 (0)), (.bool (false)), (.slice none 0 0)], box _ _ 0 5 [(.int .i64 ((nth t.kids ((k : Int))).k)), (.string ((nth t.kids ((k : Int))).ch)), (.bool ((nth t.kids ((k : Int))).ng)), (nth t.kids ((k : Int))).rv.v, (.int .i64 ((nth t.kids ((k : Int))).mn)), (.int .i64 ((nth t.kids ((k : Int))).mx)), (.bool ((nth t.kids ((k : Int))).lz)), (nth t.kids ((k : Int))).kv.v]]) [] mixed st7 (by kernel_rfl) trivial
      ⟨Ob.d fun c => r_indexAddr rfl Try.underlying23 Try.sizeOf25 (c.p e10) (hT.at st7.ext).tl.sl.sl (c.p e12) (by omega) (by omega),
      Ob.d fun c => r_loadN (vs := [(.int .i64 ((nth t.kids ((k : Int))).k)), (.string ((nth t.kids ((k : Int))).ch)), (.bool ((nth t.kids ((k : Int))).ng)), (nth t.kids ((k : Int))).rv.v, (.int .i64 ((nth t.kids ((k : Int))).mn)), (.int .i64 ((nth t.kids ((k : Int))).mx)), (.bool ((nth t.kids ((k : Int))).lz)), (nth t.kids ((k : Int))).kv.v]) rfl Try.isAgg25 Try.sizeOf25 (c.n 0 rfl) rfl (fun _ _ hj => ((hT.at (st7.ext.trans c.J.ext)).tl.sl).elem (nth_some (i := (k : Int)) (by omega) (by omega)) hj),
      Ob.alloc rfl rfl rfl rfl Try.zeroValue25 rfl,
      Ob.storeBox (off := 0) (v := (.agg #[(.int .i64 ((nth t.kids ((k : Int))).k)), (.string ((nth t.kids ((k : Int))).ch)), (.bool ((nth t.kids ((k : Int))).ng)), (nth t.kids ((k : Int))).rv.v, (.int .i64 ((nth t.kids ((k : Int))).mn)), (.int .i64 ((nth t.kids ((k : Int))).mx)), (.bool ((nth t.kids ((k : Int))).lz)), (nth t.kids ((k : Int))).kv.v])) rfl rfl rfl rfl Try.sizeOf25 (Nat.le_of_ble_eq_true rfl) (by simp [Value.cells, Value.oneCell', Sv.v]) rfl (fun _ _ _ _ c => ⟨c.rb 2 rfl, (c.rb 2 rfl).ptr, (c.n 1 rfl)⟩), trivial⟩ ?_
     intro a8 w8 τ8 st8 f8
     obtain ⟨b8x5, e5⟩ : ∃ b, get a8 5 = b := ⟨_, rfl⟩
     obtain ⟨e2, e3, e10, e11, e12, e13, -⟩ := f8.ks [(2, _), (3, _), (10, _), (11, _), (12, _), (13, _)] ⟨e2, e3, e10, e11, e12, e13, trivial⟩
     have r0 : boxR 25 [(.int .i64 ((nth t.kids ((k : Int))).k)), (.string ((nth t.kids ((k : Int))).ch)), (.bool ((nth t.kids ((k : Int))).ng)), (nth t.kids ((k : Int))).rv.v, (.int .i64 ((nth t.kids ((k : Int))).mn)), (.int .i64 ((nth t.kids ((k : Int))).mx)), (.bool ((nth t.kids ((k : Int))).lz)), (nth t.kids ((k : Int))).kv.v] (τ8 0) b8x5 w8 := f8.rb 3 e5 rfl
     clear f8
     show Code.wp _ _ _ a8 w8
     refine region_St (bf := [0, 0, 2, 7, 15]) (sp := [det _ 16 _, det _ 17 _, det _ 18 _, det _ 19 _, det _ 3 _]) [ib r0] mixed st8 (by kernel_rfl) ⟨r0, trivial⟩
      ⟨Ob.d fun c => r_move rfl (c.p e3),
      Ob.d fun c => r_loadN (vs := [(.int .i64 ((nth t.kids ((k : Int))).k)), (.string ((nth t.kids ((k : Int))).ch)), (.bool ((nth t.kids ((k : Int))).ng)), (nth t.kids ((k : Int))).rv.v, (.int .i64 ((nth t.kids ((k : Int))).mn)), (.int .i64 ((nth t.kids ((k : Int))).mx)), (.bool ((nth t.kids ((k : Int))).lz)), (nth t.kids ((k : Int))).kv.v]) rfl Try.isAgg25 Try.sizeOf25 ((c.p e5).trans r0.ptr) rfl (fun _ _ hj => (c.ib 0 rfl).cell hj),
      Ob.c fun c => ⟨_, _, (e_call1 rfl rfl Try.call26 (c.n 1 rfl)), ih _ (nth_memI (by omega) (by omega)) _ ((hT.at (st8.ext.trans c.J.ext)).tl.el (by omega) (by omega)) (by omega)⟩,
      Ob.d fun c => r_add rfl (c.n 0 rfl) (c.n 2 rfl) (by omega),
      Ob.d fun c => r_assign rfl (c.n 3 rfl), trivial⟩ ?_
     intro a9 w9 τ9 st9 f9
     obtain ⟨e2, e5, e10, e11, e12, e13, -⟩ := f9.ks [(2, _), (5, _), (10, _), (11, _), (12, _), (13, _)] ⟨e2, e5, e10, e11, e12, e13, trivial⟩
     have e3 : get a9 3 = (.int .i64 ((if t.k = 5 then 1 else 0) + sumL ((t.kids.take k).map groupsF) + (groupsF (nth t.kids ((k : Int)))))) := f9.v 4 rfl
     replace r0 := f9.ib 0 rfl
     clear f9
     show _
     show Code.wp _ _ _ a9 w9
     refine region_St (bf := [0, 1]) (sp := [det _ 20 _, det _ 12 _]) [ib r0] mixed st9 (by kernel_rfl) ⟨r0, trivial⟩
      ⟨Ob.d fun c => r_add rfl (c.p e12) rfl (by omega),
      Ob.d fun c => r_move rfl (c.n 0 rfl), trivial⟩ ?_
     intro a10 w10 τ10 st10 f10
     obtain ⟨e2, e3, e5, e10, e11, e13, -⟩ := f10.ks [(2, _), (3, _), (5, _), (10, _), (11, _), (13, _)] ⟨e2, e3, e5, e10, e11, e13, trivial⟩
     have e12 : get a10 12 = (.int .i64 ((k : Int) + 1)) := f10.v 1 rfl
     replace r0 := f10.ib 0 rfl
     clear f10
     refine ⟨⟨k + 1, τ10, ?_, st10, (e3.trans (int_eq (by first | omega | (rw [if_pos (by assumption)]; rfl) | (rw [if_neg (by assumption)]; rfl)))), (e12.trans (int_eq (by first | omega | (rw [if_pos (by assumption)]; rfl) | (rw [if_neg (by assumption)]; rfl)))), e2, e10, e11⟩, ?_⟩
     · omega
     · simp only [m12, e12, intOf]; omega
   try simp only [decide_eq_false_iff_not, Int.not_lt] at hc2
   refine wp_exit ?_
   repeat (with_reducible refine then_exit ?_)
   refine exit_here ?_
   show Code.wp _ _ _ a7 w7
   refine wp_seq ?_
   refine region_St (bf := [0, 1]) (sp := [det _ 21 _, det _ 2 _]) [] mixed st7 (by kernel_rfl) trivial
    ⟨Ob.d fun c => r_move rfl (c.p e3),
    Ob.d fun c => r_assign rfl (c.n 0 rfl), trivial⟩ ?_
   intro a11 w11 τ11 st11 f11
   have e2 : get a11 2 = (.int .i64 ((if t.k = 5 then 1 else 0) + sumL ((t.kids.take k).map groupsF))) := f11.v 1 rfl
   clear f11
   show Code.wp _ _ _ a11 w11
   refine wp_ret ?_
   repeat (first | with_reducible refine then_ret ?_ | with_reducible refine block_ret ?_)
   refine ret1 (fn := Try.f26) rfl st11.defers e2 ?_
   have htk : sumL ((t.kids.take k).map groupsF) = sumL (t.kids.map groupsF) := by rw [List.take_of_length_le (by omega)]
   exact ⟨congrArg _ (int_eq (by omega)), st11.ext0⟩
 try simp only [decide_eq_false_iff_not] at hc1
 refine wp_skip ?_
 show Code.wp _ _ _ a3 w3
 refine wp_seq ?_
 refine wp_seq ?_
 refine region_St (bf := [0, 1, 3, 0]) (sp := [det _ 9 _, det _ 10 _, det _ 11 _, det _ 12 _]) [ib r0] mixed st3 (by kernel_rfl) ⟨r0, trivial⟩
  ⟨Ob.d fun c => r_fieldAddr rfl Try.underlying25 rfl rfl Try.sizeOf23 ((c.p e1).trans r0.ptr),
  Ob.d fun c => r_load1 rfl Try.isAgg23 (c.n 0 rfl) ((c.ib 0 rfl).cell (j := 7) rfl),
  Ob.d fun c => r_len rfl Try.underlying23 (c.n 1 rfl) (hT.at st3.ext).tl.sl.sl,
  Ob.d fun c => r_move rfl rfl, trivial⟩ ?_
 intro a12 w12 τ12 st12 f12
 obtain ⟨e2, e3, -⟩ := f12.ks [(2, _), (3, _)] ⟨e2, e3, trivial⟩
 have e10 : get a12 10 = t.kv.v := f12.v 1 rfl
 have e11 : get a12 11 = (.int .i64 ((t.kids.length : Int))) := f12.v 2 rfl
 have e12 : get a12 12 = (.int .i64 (0)) := f12.v 3 rfl
 clear f12
 show Code.wp _ _ _ a12 w12
 refine wp_block ?_
 refine wp_loop (fun a_ w_ => ∃ (k : Nat) (τ : Nat → Foot), (k ≤ t.kids.length) ∧
      St (Nw w) w 22 a_ w_ τ ∧
      get a_ 3 = (.int .i64 ((if t.k = 5 then 1 else 0) + sumL ((t.kids.take k).map groupsF))) ∧
      get a_ 12 = (.int .i64 ((k : Int))) ∧
      get a_ 2 = (.int .i64 (0)) ∧
      get a_ 10 = t.kv.v ∧
      get a_ 11 = (.int .i64 ((t.kids.length : Int)))) (fun a_ _ => t.kids.length - (intOf (get a_ 12)).toNat) ?_ ?_
 · refine ⟨0, τ12, ?_, st12, (e3.trans (int_eq (by first | omega | (rw [if_pos (by assumption)]; rfl) | (rw [if_neg (by assumption)]; rfl)))), (e12.trans (int_eq (by first | omega | (rw [if_pos (by assumption)]; rfl) | (rw [if_neg (by assumption)]; rfl)))), e2, e10, e11⟩
   · omega
 intro a13 w13 hI
 obtain ⟨k, τ13, q0, st13, e3, e12, e2, e10, e11⟩ := hI
 have hsl := sum_le (f := groupsF) hf0 k
 have hss : k < t.kids.length → groupsF (nth t.kids (k : Int)) ≤ sumL (t.kids.map groupsF) ∧ sumL ((t.kids.take (k + 1)).map groupsF) = sumL ((t.kids.take k).map groupsF) + groupsF (nth t.kids (k : Int)) := fun h_ => ⟨sum_mem hf0 (nth_memI (by omega) (by omega)), sum_step h_⟩
 have hs2 := sum_le (f := groupsF) hf0 (k + 1)
 have hpk := hpm k
 have hsp : (0 : Int) ≤ (if t.k = 5 then 1 else 0) ∧ (if t.k = 5 then (1 : Int) else 0) ≤ 1 := by split <;> omega
 have m12 := e12
 refine wp_seq ?_
 refine region_St (bf := [0]) (sp := [det _ 13 _]) [] mixed st13 (by kernel_rfl) trivial
  ⟨Ob.d fun c => r_lss rfl (c.p e12) (c.p e11), trivial⟩ ?_
 intro a14 w14 τ14 st14 f14
 obtain ⟨e2, e3, e10, e11, e12, -⟩ := f14.ks [(2, _), (3, _), (10, _), (11, _), (12, _)] ⟨e2, e3, e10, e11, e12, trivial⟩
 have e13 : get a14 13 = (.bool (decide ((k : Int) < (t.kids.length : Int)))) := f14.v 0 rfl
 clear f14
 show Code.wp _ _ _ a14 w14
 refine wp_seq ?_
 refine wp_cond_split (t := decide ((k : Int) < (t.kids.length : Int))) e13 (fun hc3 => ?_) (fun hc3 => ?_)
 · try simp only [decide_eq_true_eq] at hc3
   refine wp_skip ?_
   show Code.wp _ _ _ a14 w14
   refine wp_seq ?_
   refine wp_block ?_
   refine wp_seq ?_
   refine region_St (bf := [0, 1, 0, 7]) (sp := [det _ 14 _, det _ 15 _, box _ _ 0 5 [(.int .i64 (0)), (.string ((⟨#[]⟩ : ByteArray))), (.bool (false)), (.slice none 0 0), (.int .i64 (0)), (.int .i64 (0)), (.bool (false)), (.slice none 0 0)], box _ _ 0 5 [(.int .i64 ((nth t.kids ((k : Int))).k)), (.string ((nth t.kids ((k : Int))).ch)), (.bool ((nth t.kids ((k : Int))).ng)), (nth t.kids ((k : Int))).rv.v, (.int .i64 ((nth t.kids ((k : Int))).mn)), (.int .i64 ((nth t.kids ((k : Int))).mx)), (.bool ((nth t.kids ((k : Int))).lz)), (nth t.kids ((k : Int))).kv.v]]) [] mixed st14 (by kernel_rfl) trivial
    ⟨Ob.d fun c => r_indexAddr rfl Try.underlying23 Try.sizeOf25 (c.p e10) (hT.at st14.ext).tl.sl.sl (c.p e12) (by omega) (by omega),
    Ob.d fun c => r_loadN (vs := [(.int .i64 ((nth t.kids ((k : Int))).k)), (.string ((nth t.kids ((k : Int))).ch)), (.bool ((nth t.kids ((k : Int))).ng)), (nth t.kids ((k : Int))).rv.v, (.int .i64 ((nth t.kids ((k : Int))).mn)), (.int .i64 ((nth t.kids ((k : Int))).mx)), (.bool ((nth t.kids ((k : Int))).lz)), (nth t.kids ((k : Int))).kv.v]) rfl Try.isAgg25 Try.sizeOf25 (c.n 0 rfl) rfl (fun _ _ hj => ((hT.at (st14.ext.trans c.J.ext)).tl.sl).elem (nth_some (i := (k : Int)) (by omega) (by omega)) hj),
    Ob.alloc rfl rfl rfl rfl Try.zeroValue25 rfl,
    Ob.storeBox (off := 0) (v := (.agg #[(.int .i64 ((nth t.kids ((k : Int))).k)), (.string ((nth t.kids ((k : Int))).ch)), (.bool ((nth t.kids ((k : Int))).ng)), (nth t.kids ((k : Int))).rv.v, (.int .i64 ((nth t.kids ((k : Int))).mn)), (.int .i64 ((nth t.kids ((k : Int))).mx)), (.bool ((nth t.kids ((k : Int))).lz)), (nth t.kids ((k : Int))).kv.v])) rfl rfl rfl rfl Try.sizeOf25 (Nat.le_of_ble_eq_true rfl) (by simp [Value.cells, Value.oneCell', Sv.v]) rfl (fun _ _ _ _ c => ⟨c.rb 2 rfl, (c.rb 2 rfl).ptr, (c.n 1 rfl)⟩), trivial⟩ ?_
   intro a15 w15 τ15 st15 f15
   obtain ⟨b15x5, e5⟩ : ∃ b, get a15 5 = b := ⟨_, rfl⟩
   obtain ⟨e2, e3, e10, e11, e12, e13, -⟩ := f15.ks [(2, _), (3, _), (10, _), (11, _), (12, _), (13, _)] ⟨e2, e3, e10, e11, e12, e13, trivial⟩
   have r0 : boxR 25 [(.int .i64 ((nth t.kids ((k : Int))).k)), (.string ((nth t.kids ((k : Int))).ch)), (.bool ((nth t.kids ((k : Int))).ng)), (nth t.kids ((k : Int))).rv.v, (.int .i64 ((nth t.kids ((k : Int))).mn)), (.int .i64 ((nth t.kids ((k : Int))).mx)), (.bool ((nth t.kids ((k : Int))).lz)), (nth t.kids ((k : Int))).kv.v] (τ15 0) b15x5 w15 := f15.rb 3 e5 rfl
   clear f15
   show Code.wp _ _ _ a15 w15
   refine region_St (bf := [0, 0, 2, 7, 15]) (sp := [det _ 16 _, det _ 17 _, det _ 18 _, det _ 19 _, det _ 3 _]) [ib r0] mixed st15 (by kernel_rfl) ⟨r0, trivial⟩
    ⟨Ob.d fun c => r_move rfl (c.p e3),
    Ob.d fun c => r_loadN (vs := [(.int .i64 ((nth t.kids ((k : Int))).k)), (.string ((nth t.kids ((k : Int))).ch)), (.bool ((nth t.kids ((k : Int))).ng)), (nth t.kids ((k : Int))).rv.v, (.int .i64 ((nth t.kids ((k : Int))).mn)), (.int .i64 ((nth t.kids ((k : Int))).mx)), (.bool ((nth t.kids ((k : Int))).lz)), (nth t.kids ((k : Int))).kv.v]) rfl Try.isAgg25 Try.sizeOf25 ((c.p e5).trans r0.ptr) rfl (fun _ _ hj => (c.ib 0 rfl).cell hj),
    Ob.c fun c => ⟨_, _, (e_call1 rfl rfl Try.call26 (c.n 1 rfl)), ih _ (nth_memI (by omega) (by omega)) _ ((hT.at (st15.ext.trans c.J.ext)).tl.el (by omega) (by omega)) (by omega)⟩,
    Ob.d fun c => r_add rfl (c.n 0 rfl) (c.n 2 rfl) (by omega),
    Ob.d fun c => r_assign rfl (c.n 3 rfl), trivial⟩ ?_
   intro a16 w16 τ16 st16 f16
   obtain ⟨e2, e5, e10, e11, e12, e13, -⟩ := f16.ks [(2, _), (5, _), (10, _), (11, _), (12, _), (13, _)] ⟨e2, e5, e10, e11, e12, e13, trivial⟩
   have e3 : get a16 3 = (.int .i64 ((if t.k = 5 then 1 else 0) + sumL ((t.kids.take k).map groupsF) + (groupsF (nth t.kids ((k : Int)))))) := f16.v 4 rfl
   replace r0 := f16.ib 0 rfl
   clear f16
   show _
   show Code.wp _ _ _ a16 w16
   refine region_St (bf := [0, 1]) (sp := [det _ 20 _, det _ 12 _]) [ib r0] mixed st16 (by kernel_rfl) ⟨r0, trivial⟩
    ⟨Ob.d fun c => r_add rfl (c.p e12) rfl (by omega),
    Ob.d fun c => r_move rfl (c.n 0 rfl), trivial⟩ ?_
   intro a17 w17 τ17 st17 f17
   obtain ⟨e2, e3, e5, e10, e11, e13, -⟩ := f17.ks [(2, _), (3, _), (5, _), (10, _), (11, _), (13, _)] ⟨e2, e3, e5, e10, e11, e13, trivial⟩
   have e12 : get a17 12 = (.int .i64 ((k : Int) + 1)) := f17.v 1 rfl
   replace r0 := f17.ib 0 rfl
   clear f17
   refine ⟨⟨k + 1, τ17, ?_, st17, (e3.trans (int_eq (by first | omega | (rw [if_pos (by assumption)]; rfl) | (rw [if_neg (by assumption)]; rfl)))), (e12.trans (int_eq (by first | omega | (rw [if_pos (by assumption)]; rfl) | (rw [if_neg (by assumption)]; rfl)))), e2, e10, e11⟩, ?_⟩
   · omega
   · simp only [m12, e12, intOf]; omega
 try simp only [decide_eq_false_iff_not, Int.not_lt] at hc3
 refine wp_exit ?_
 repeat (with_reducible refine then_exit ?_)
 refine exit_here ?_
 show Code.wp _ _ _ a14 w14
 refine wp_seq ?_
 refine region_St (bf := [0, 1]) (sp := [det _ 21 _, det _ 2 _]) [] mixed st14 (by kernel_rfl) trivial
  ⟨Ob.d fun c => r_move rfl (c.p e3),
  Ob.d fun c => r_assign rfl (c.n 0 rfl), trivial⟩ ?_
 intro a18 w18 τ18 st18 f18
 have e2 : get a18 2 = (.int .i64 ((if t.k = 5 then 1 else 0) + sumL ((t.kids.take k).map groupsF))) := f18.v 1 rfl
 clear f18
 show Code.wp _ _ _ a18 w18
 refine wp_ret ?_
 repeat (first | with_reducible refine then_ret ?_ | with_reducible refine block_ret ?_)
 refine ret1 (fn := Try.f26) rfl st18.defers e2 ?_
 have htk : sumL ((t.kids.take k).map groupsF) = sumL (t.kids.map groupsF) := by rw [List.take_of_length_le (by omega)]
 exact ⟨congrArg _ (int_eq (by omega)), st18.ext0⟩

theorem groups_c (t : Tr) : ∀ (w : World), TrS w t → partsF t ≤ 1000000000 → Calls Try.prog 26 #[t.v] w (fun e w' => e = .returned (.int .i64 (groupsF t)) ∧ Ext none' w w') := Tr.ind (P := fun t => ∀ (w : World), TrS w t → partsF t ≤ 1000000000 → Calls Try.prog 26 #[t.v] w (fun e w' => e = .returned (.int .i64 (groupsF t)) ∧ Ext none' w w')) groups_c_step t

set_option maxRecDepth 100000 in
theorem refGroups_c_step (t : Tr) (ih : ∀ k ∈ t.kids, ∀ (w : World), TrS w k → partsF k ≤ 1000000000 → Calls Try.prog 27 #[k.v] w (fun e w' => e = .returned (.int .i64 (groupsF k)) ∧ Ext none' w w')) (w : World) (hT : TrS w t) (hy0 : partsF t ≤ 1000000000) : Calls Try.prog 27 #[t.v] w (fun e w' => e = .returned (.int .i64 (groupsF t)) ∧ Ext none' w w') := by
 refine enter (n := 24) Try.func27 rfl rfl (Nat.le_of_ble_eq_true rfl) ?_
 intro a0 τ0 ha st0
 have e0 : get a0 0 = (.agg #[(.int .i64 (t.k)), (.string (t.ch)), (.bool (t.ng)), t.rv.v, (.int .i64 (t.mn)), (.int .i64 (t.mx)), (.bool (t.lz)), t.kv.v]) := ha 0 _ rfl
 clear ha
 have hle := hT.kids.le
 have hf0 : ∀ q ∈ t.kids, 0 ≤ groupsF q := fun q _ => (groupsF_bound q).1
 have hf1 : ∀ q ∈ t.kids, 0 ≤ partsF q := fun q _ => by have := partsF_pos q; omega
 have hgb := groupsF_bound t
 have hpe := groupsF_eq t
 have hpm : ∀ k : Nat, k < t.kids.length → partsF (nth t.kids (k : Int)) ≤ 1000000000 := fun k h_ => by
   have h1_ := sum_mem hf1 (nth_memI (xs := t.kids) (i := (k : Int)) (by omega) (by omega))
   have h2_ := partsF_eq t
   omega
 refine wp_seq ?_
 refine region_St (bf := [0, 0]) (sp := [box _ _ 0 1 [(.int .i64 (t.k)), (.string (t.ch)), (.bool (t.ng)), t.rv.v, (.int .i64 (t.mn)), (.int .i64 (t.mx)), (.bool (t.lz)), t.kv.v], det _ 2 _]) [] mixed st0 (by kernel_rfl) trivial
  ⟨Ob.box (v := (.agg #[(.int .i64 (t.k)), (.string (t.ch)), (.bool (t.ng)), t.rv.v, (.int .i64 (t.mn)), (.int .i64 (t.mx)), (.bool (t.lz)), t.kv.v])) rfl rfl rfl rfl rfl (fun _ _ _ _ c => (c.p e0)),
  Ob.d fun c => r_assign rfl rfl, trivial⟩ ?_
 intro a1 w1 τ1 st1 f1
 obtain ⟨b1x1, e1⟩ : ∃ b, get a1 1 = b := ⟨_, rfl⟩
 have e2 : get a1 2 = (.int .i64 (0)) := f1.v 1 rfl
 have r0 : boxR 25 [(.int .i64 (t.k)), (.string (t.ch)), (.bool (t.ng)), t.rv.v, (.int .i64 (t.mn)), (.int .i64 (t.mx)), (.bool (t.lz)), t.kv.v] (τ1 0) b1x1 w1 := f1.rb 0 e1 rfl
 clear f1
 show Code.wp _ _ _ a1 w1
 refine wp_seq ?_
 refine region_St (bf := [0]) (sp := [det _ 3 _]) [ib r0] mixed st1 (by kernel_rfl) ⟨r0, trivial⟩
  ⟨Ob.d fun c => r_assign rfl rfl, trivial⟩ ?_
 intro a2 w2 τ2 st2 f2
 obtain ⟨e1, e2, -⟩ := f2.ks [(1, _), (2, _)] ⟨e1, e2, trivial⟩
 have e3 : get a2 3 = (.int .i64 (0)) := f2.v 0 rfl
 replace r0 := f2.ib 0 rfl
 clear f2
 show Code.wp _ _ _ a2 w2
 refine wp_seq ?_
 refine wp_seq ?_
 refine region_St (bf := [0, 1, 3]) (sp := [det _ 5 _, det _ 6 _, det _ 7 _]) [ib r0] mixed st2 (by kernel_rfl) ⟨r0, trivial⟩
  ⟨Ob.d fun c => r_fieldAddr rfl Try.underlying25 rfl rfl Try.sizeOf3 ((c.p e1).trans r0.ptr),
  Ob.d fun c => r_load1 rfl Try.isAgg3 (c.n 0 rfl) ((c.ib 0 rfl).cell (j := 0) rfl),
  Ob.d fun c => r_eql rfl (c.n 1 rfl) rfl, trivial⟩ ?_
 intro a3 w3 τ3 st3 f3
 obtain ⟨e1, e2, e3, -⟩ := f3.ks [(1, _), (2, _), (3, _)] ⟨e1, e2, e3, trivial⟩
 have e7 : get a3 7 = (.bool (decide (t.k = 5))) := f3.v 2 rfl
 replace r0 := f3.ib 0 rfl
 clear f3
 show Code.wp _ _ _ a3 w3
 refine wp_cond_split (t := decide (t.k = 5)) e7 (fun hc1 => ?_) (fun hc1 => ?_)
 · try simp only [decide_eq_true_eq] at hc1
   refine region_St (bf := [0]) (sp := [det _ 3 _]) [ib r0] mixed st3 (by kernel_rfl) ⟨r0, trivial⟩
    ⟨Ob.d fun c => r_assign rfl rfl, trivial⟩ ?_
   intro a4 w4 τ4 st4 f4
   obtain ⟨e1, e2, -⟩ := f4.ks [(1, _), (2, _)] ⟨e1, e2, trivial⟩
   have e3 : get a4 3 = (.int .i64 (1)) := f4.v 0 rfl
   replace r0 := f4.ib 0 rfl
   clear f4
   show Code.wp _ _ _ a4 w4
   refine wp_seq ?_
   refine wp_seq ?_
   refine region_St (bf := [0]) (sp := [det _ 4 _]) [ib r0] mixed st4 (by kernel_rfl) ⟨r0, trivial⟩
    ⟨Ob.d fun c => r_assign rfl rfl, trivial⟩ ?_
   intro a5 w5 τ5 st5 f5
   obtain ⟨e1, e2, e3, -⟩ := f5.ks [(1, _), (2, _), (3, _)] ⟨e1, e2, e3, trivial⟩
   have e4 : get a5 4 = (.int .i64 (0)) := f5.v 0 rfl
   replace r0 := f5.ib 0 rfl
   clear f5
   show Code.wp _ _ _ a5 w5
   refine wp_block ?_
   refine wp_loop (fun a_ w_ => ∃ (k : Nat) (τ : Nat → Foot), (k ≤ t.kids.length) ∧
          St (Nw w) w 24 a_ w_ τ ∧
          get a_ 3 = (.int .i64 ((if t.k = 5 then 1 else 0) + sumL ((t.kids.take k).map groupsF))) ∧
          get a_ 4 = (.int .i64 ((k : Int))) ∧
          get a_ 1 = b1x1 ∧
          get a_ 2 = (.int .i64 (0)) ∧
          boxR 25 [(.int .i64 (t.k)), (.string (t.ch)), (.bool (t.ng)), t.rv.v, (.int .i64 (t.mn)), (.int .i64 (t.mx)), (.bool (t.lz)), t.kv.v] (τ 0) b1x1 w_) (fun a_ _ => t.kids.length - (intOf (get a_ 4)).toNat) ?_ ?_
   · refine ⟨0, τ5, ?_, st5, (e3.trans (int_eq (by first | omega | (rw [if_pos (by assumption)]; rfl) | (rw [if_neg (by assumption)]; rfl)))), (e4.trans (int_eq (by first | omega | (rw [if_pos (by assumption)]; rfl) | (rw [if_neg (by assumption)]; rfl)))), e1, e2, r0⟩
     · omega
   intro a6 w6 hI
   obtain ⟨k, τ6, q0, st6, e3, e4, e1, e2, r0⟩ := hI
   have hsl := sum_le (f := groupsF) hf0 k
   have hss : k < t.kids.length → groupsF (nth t.kids (k : Int)) ≤ sumL (t.kids.map groupsF) ∧ sumL ((t.kids.take (k + 1)).map groupsF) = sumL ((t.kids.take k).map groupsF) + groupsF (nth t.kids (k : Int)) := fun h_ => ⟨sum_mem hf0 (nth_memI (by omega) (by omega)), sum_step h_⟩
   have hs2 := sum_le (f := groupsF) hf0 (k + 1)
   have hpk := hpm k
   have hsp : (0 : Int) ≤ (if t.k = 5 then 1 else 0) ∧ (if t.k = 5 then (1 : Int) else 0) ≤ 1 := by split <;> omega
   have m4 := e4
   refine wp_seq ?_
   refine wp_seq ?_
   refine region_St (bf := [0, 0, 2, 6, 15]) (sp := [det _ 8 _, det _ 9 _, det _ 10 _, det _ 11 _, det _ 12 _]) [ib r0] mixed st6 (by kernel_rfl) ⟨r0, trivial⟩
    ⟨Ob.d fun c => r_move rfl (c.p e4),
    Ob.d fun c => r_fieldAddr rfl Try.underlying25 rfl rfl Try.sizeOf23 ((c.p e1).trans r0.ptr),
    Ob.d fun c => r_load1 rfl Try.isAgg23 (c.n 1 rfl) ((c.ib 0 rfl).cell (j := 7) rfl),
    Ob.d fun c => r_len rfl Try.underlying23 (c.n 2 rfl) (hT.at st6.ext).tl.sl.sl,
    Ob.d fun c => r_lss rfl (c.n 0 rfl) (c.n 3 rfl), trivial⟩ ?_
   intro a7 w7 τ7 st7 f7
   obtain ⟨e1, e2, e3, e4, -⟩ := f7.ks [(1, _), (2, _), (3, _), (4, _)] ⟨e1, e2, e3, e4, trivial⟩
   have e12 : get a7 12 = (.bool (decide ((k : Int) < (t.kids.length : Int)))) := f7.v 4 rfl
   replace r0 := f7.ib 0 rfl
   clear f7
   show Code.wp _ _ _ a7 w7
   refine wp_cond_split (t := decide ((k : Int) < (t.kids.length : Int))) e12 (fun hc2 => ?_) (fun hc2 => ?_)
   · try simp only [decide_eq_true_eq] at hc2
     refine wp_skip ?_
     show Code.wp _ _ _ a7 w7
     refine wp_seq ?_
     refine wp_block ?_
     refine region_St (bf := [0, 0, 2, 0, 14, 30, 62, 127, 255]) (sp := [det _ 15 _, det _ 16 _, det _ 17 _, det _ 18 _, det _ 19 _, det _ 20 _, det _ 21 _, det _ 22 _, det _ 3 _]) [ib r0] mixed st7 (by kernel_rfl) ⟨r0, trivial⟩
      ⟨Ob.d fun c => r_move rfl (c.p e3),
      Ob.d fun c => r_fieldAddr rfl Try.underlying25 rfl rfl Try.sizeOf23 ((c.p e1).trans r0.ptr),
      Ob.d fun c => r_load1 rfl Try.isAgg23 (c.n 1 rfl) ((c.ib 0 rfl).cell (j := 7) rfl),
      Ob.d fun c => r_move rfl (c.p e4),
      Ob.d fun c => r_indexAddr rfl Try.underlying23 Try.sizeOf25 (c.n 2 rfl) (hT.at st7.ext).tl.sl.sl (c.n 3 rfl) (by omega) (by omega),
      Ob.d fun c => r_loadN (vs := [(.int .i64 ((nth t.kids ((k : Int))).k)), (.string ((nth t.kids ((k : Int))).ch)), (.bool ((nth t.kids ((k : Int))).ng)), (nth t.kids ((k : Int))).rv.v, (.int .i64 ((nth t.kids ((k : Int))).mn)), (.int .i64 ((nth t.kids ((k : Int))).mx)), (.bool ((nth t.kids ((k : Int))).lz)), (nth t.kids ((k : Int))).kv.v]) rfl Try.isAgg25 Try.sizeOf25 (c.n 4 rfl) rfl (fun _ _ hj => ((hT.at (st7.ext.trans c.J.ext)).tl.sl).elem (nth_some (i := (k : Int)) (by omega) (by omega)) hj),
      Ob.c fun c => ⟨_, _, (e_call1 rfl rfl Try.call27 (c.n 5 rfl)), ih _ (nth_memI (by omega) (by omega)) _ ((hT.at (st7.ext.trans c.J.ext)).tl.el (by omega) (by omega)) (by omega)⟩,
      Ob.d fun c => r_add rfl (c.n 0 rfl) (c.n 6 rfl) (by omega),
      Ob.d fun c => r_assign rfl (c.n 7 rfl), trivial⟩ ?_
     intro a8 w8 τ8 st8 f8
     obtain ⟨e1, e2, e4, e12, -⟩ := f8.ks [(1, _), (2, _), (4, _), (12, _)] ⟨e1, e2, e4, e12, trivial⟩
     have e3 : get a8 3 = (.int .i64 ((if t.k = 5 then 1 else 0) + sumL ((t.kids.take k).map groupsF) + (groupsF (nth t.kids ((k : Int)))))) := f8.v 8 rfl
     replace r0 := f8.ib 0 rfl
     clear f8
     show _
     show Code.wp _ _ _ a8 w8
     refine region_St (bf := [0, 1, 3]) (sp := [det _ 13 _, det _ 14 _, det _ 4 _]) [ib r0] mixed st8 (by kernel_rfl) ⟨r0, trivial⟩
      ⟨Ob.d fun c => r_move rfl (c.p e4),
      Ob.d fun c => r_add rfl (c.n 0 rfl) rfl (by omega),
      Ob.d fun c => r_assign rfl (c.n 1 rfl), trivial⟩ ?_
     intro a9 w9 τ9 st9 f9
     obtain ⟨e1, e2, e3, e12, -⟩ := f9.ks [(1, _), (2, _), (3, _), (12, _)] ⟨e1, e2, e3, e12, trivial⟩
     have e4 : get a9 4 = (.int .i64 ((k : Int) + 1)) := f9.v 2 rfl
     replace r0 := f9.ib 0 rfl
     clear f9
     refine ⟨⟨k + 1, τ9, ?_, st9, (e3.trans (int_eq (by first | omega | (rw [if_pos (by assumption)]; rfl) | (rw [if_neg (by assumption)]; rfl)))), (e4.trans (int_eq (by first | omega | (rw [if_pos (by assumption)]; rfl) | (rw [if_neg (by assumption)]; rfl)))), e1, e2, r0⟩, ?_⟩
     · omega
     · simp only [m4, e4, intOf]; omega
   try simp only [decide_eq_false_iff_not, Int.not_lt] at hc2
   refine wp_exit ?_
   repeat (with_reducible refine then_exit ?_)
   refine exit_here ?_
   show Code.wp _ _ _ a7 w7
   refine wp_seq ?_
   refine region_St (bf := [0, 1]) (sp := [det _ 23 _, det _ 2 _]) [ib r0] mixed st7 (by kernel_rfl) ⟨r0, trivial⟩
    ⟨Ob.d fun c => r_move rfl (c.p e3),
    Ob.d fun c => r_assign rfl (c.n 0 rfl), trivial⟩ ?_
   intro a10 w10 τ10 st10 f10
   have e2 : get a10 2 = (.int .i64 ((if t.k = 5 then 1 else 0) + sumL ((t.kids.take k).map groupsF))) := f10.v 1 rfl
   clear f10
   show Code.wp _ _ _ a10 w10
   refine wp_ret ?_
   repeat (first | with_reducible refine then_ret ?_ | with_reducible refine block_ret ?_)
   refine ret1 (fn := Try.f27) rfl st10.defers e2 ?_
   have htk : sumL ((t.kids.take k).map groupsF) = sumL (t.kids.map groupsF) := by rw [List.take_of_length_le (by omega)]
   exact ⟨congrArg _ (int_eq (by omega)), st10.ext0⟩
 try simp only [decide_eq_false_iff_not] at hc1
 refine wp_skip ?_
 show Code.wp _ _ _ a3 w3
 refine wp_seq ?_
 refine wp_seq ?_
 refine region_St (bf := [0]) (sp := [det _ 4 _]) [ib r0] mixed st3 (by kernel_rfl) ⟨r0, trivial⟩
  ⟨Ob.d fun c => r_assign rfl rfl, trivial⟩ ?_
 intro a11 w11 τ11 st11 f11
 obtain ⟨e1, e2, e3, -⟩ := f11.ks [(1, _), (2, _), (3, _)] ⟨e1, e2, e3, trivial⟩
 have e4 : get a11 4 = (.int .i64 (0)) := f11.v 0 rfl
 replace r0 := f11.ib 0 rfl
 clear f11
 show Code.wp _ _ _ a11 w11
 refine wp_block ?_
 refine wp_loop (fun a_ w_ => ∃ (k : Nat) (τ : Nat → Foot), (k ≤ t.kids.length) ∧
      St (Nw w) w 24 a_ w_ τ ∧
      get a_ 3 = (.int .i64 ((if t.k = 5 then 1 else 0) + sumL ((t.kids.take k).map groupsF))) ∧
      get a_ 4 = (.int .i64 ((k : Int))) ∧
      get a_ 1 = b1x1 ∧
      get a_ 2 = (.int .i64 (0)) ∧
      boxR 25 [(.int .i64 (t.k)), (.string (t.ch)), (.bool (t.ng)), t.rv.v, (.int .i64 (t.mn)), (.int .i64 (t.mx)), (.bool (t.lz)), t.kv.v] (τ 0) b1x1 w_) (fun a_ _ => t.kids.length - (intOf (get a_ 4)).toNat) ?_ ?_
 · refine ⟨0, τ11, ?_, st11, (e3.trans (int_eq (by first | omega | (rw [if_pos (by assumption)]; rfl) | (rw [if_neg (by assumption)]; rfl)))), (e4.trans (int_eq (by first | omega | (rw [if_pos (by assumption)]; rfl) | (rw [if_neg (by assumption)]; rfl)))), e1, e2, r0⟩
   · omega
 intro a12 w12 hI
 obtain ⟨k, τ12, q0, st12, e3, e4, e1, e2, r0⟩ := hI
 have hsl := sum_le (f := groupsF) hf0 k
 have hss : k < t.kids.length → groupsF (nth t.kids (k : Int)) ≤ sumL (t.kids.map groupsF) ∧ sumL ((t.kids.take (k + 1)).map groupsF) = sumL ((t.kids.take k).map groupsF) + groupsF (nth t.kids (k : Int)) := fun h_ => ⟨sum_mem hf0 (nth_memI (by omega) (by omega)), sum_step h_⟩
 have hs2 := sum_le (f := groupsF) hf0 (k + 1)
 have hpk := hpm k
 have hsp : (0 : Int) ≤ (if t.k = 5 then 1 else 0) ∧ (if t.k = 5 then (1 : Int) else 0) ≤ 1 := by split <;> omega
 have m4 := e4
 refine wp_seq ?_
 refine wp_seq ?_
 refine region_St (bf := [0, 0, 2, 6, 15]) (sp := [det _ 8 _, det _ 9 _, det _ 10 _, det _ 11 _, det _ 12 _]) [ib r0] mixed st12 (by kernel_rfl) ⟨r0, trivial⟩
  ⟨Ob.d fun c => r_move rfl (c.p e4),
  Ob.d fun c => r_fieldAddr rfl Try.underlying25 rfl rfl Try.sizeOf23 ((c.p e1).trans r0.ptr),
  Ob.d fun c => r_load1 rfl Try.isAgg23 (c.n 1 rfl) ((c.ib 0 rfl).cell (j := 7) rfl),
  Ob.d fun c => r_len rfl Try.underlying23 (c.n 2 rfl) (hT.at st12.ext).tl.sl.sl,
  Ob.d fun c => r_lss rfl (c.n 0 rfl) (c.n 3 rfl), trivial⟩ ?_
 intro a13 w13 τ13 st13 f13
 obtain ⟨e1, e2, e3, e4, -⟩ := f13.ks [(1, _), (2, _), (3, _), (4, _)] ⟨e1, e2, e3, e4, trivial⟩
 have e12 : get a13 12 = (.bool (decide ((k : Int) < (t.kids.length : Int)))) := f13.v 4 rfl
 replace r0 := f13.ib 0 rfl
 clear f13
 show Code.wp _ _ _ a13 w13
 refine wp_cond_split (t := decide ((k : Int) < (t.kids.length : Int))) e12 (fun hc3 => ?_) (fun hc3 => ?_)
 · try simp only [decide_eq_true_eq] at hc3
   refine wp_skip ?_
   show Code.wp _ _ _ a13 w13
   refine wp_seq ?_
   refine wp_block ?_
   refine region_St (bf := [0, 0, 2, 0, 14, 30, 62, 127, 255]) (sp := [det _ 15 _, det _ 16 _, det _ 17 _, det _ 18 _, det _ 19 _, det _ 20 _, det _ 21 _, det _ 22 _, det _ 3 _]) [ib r0] mixed st13 (by kernel_rfl) ⟨r0, trivial⟩
    ⟨Ob.d fun c => r_move rfl (c.p e3),
    Ob.d fun c => r_fieldAddr rfl Try.underlying25 rfl rfl Try.sizeOf23 ((c.p e1).trans r0.ptr),
    Ob.d fun c => r_load1 rfl Try.isAgg23 (c.n 1 rfl) ((c.ib 0 rfl).cell (j := 7) rfl),
    Ob.d fun c => r_move rfl (c.p e4),
    Ob.d fun c => r_indexAddr rfl Try.underlying23 Try.sizeOf25 (c.n 2 rfl) (hT.at st13.ext).tl.sl.sl (c.n 3 rfl) (by omega) (by omega),
    Ob.d fun c => r_loadN (vs := [(.int .i64 ((nth t.kids ((k : Int))).k)), (.string ((nth t.kids ((k : Int))).ch)), (.bool ((nth t.kids ((k : Int))).ng)), (nth t.kids ((k : Int))).rv.v, (.int .i64 ((nth t.kids ((k : Int))).mn)), (.int .i64 ((nth t.kids ((k : Int))).mx)), (.bool ((nth t.kids ((k : Int))).lz)), (nth t.kids ((k : Int))).kv.v]) rfl Try.isAgg25 Try.sizeOf25 (c.n 4 rfl) rfl (fun _ _ hj => ((hT.at (st13.ext.trans c.J.ext)).tl.sl).elem (nth_some (i := (k : Int)) (by omega) (by omega)) hj),
    Ob.c fun c => ⟨_, _, (e_call1 rfl rfl Try.call27 (c.n 5 rfl)), ih _ (nth_memI (by omega) (by omega)) _ ((hT.at (st13.ext.trans c.J.ext)).tl.el (by omega) (by omega)) (by omega)⟩,
    Ob.d fun c => r_add rfl (c.n 0 rfl) (c.n 6 rfl) (by omega),
    Ob.d fun c => r_assign rfl (c.n 7 rfl), trivial⟩ ?_
   intro a14 w14 τ14 st14 f14
   obtain ⟨e1, e2, e4, e12, -⟩ := f14.ks [(1, _), (2, _), (4, _), (12, _)] ⟨e1, e2, e4, e12, trivial⟩
   have e3 : get a14 3 = (.int .i64 ((if t.k = 5 then 1 else 0) + sumL ((t.kids.take k).map groupsF) + (groupsF (nth t.kids ((k : Int)))))) := f14.v 8 rfl
   replace r0 := f14.ib 0 rfl
   clear f14
   show _
   show Code.wp _ _ _ a14 w14
   refine region_St (bf := [0, 1, 3]) (sp := [det _ 13 _, det _ 14 _, det _ 4 _]) [ib r0] mixed st14 (by kernel_rfl) ⟨r0, trivial⟩
    ⟨Ob.d fun c => r_move rfl (c.p e4),
    Ob.d fun c => r_add rfl (c.n 0 rfl) rfl (by omega),
    Ob.d fun c => r_assign rfl (c.n 1 rfl), trivial⟩ ?_
   intro a15 w15 τ15 st15 f15
   obtain ⟨e1, e2, e3, e12, -⟩ := f15.ks [(1, _), (2, _), (3, _), (12, _)] ⟨e1, e2, e3, e12, trivial⟩
   have e4 : get a15 4 = (.int .i64 ((k : Int) + 1)) := f15.v 2 rfl
   replace r0 := f15.ib 0 rfl
   clear f15
   refine ⟨⟨k + 1, τ15, ?_, st15, (e3.trans (int_eq (by first | omega | (rw [if_pos (by assumption)]; rfl) | (rw [if_neg (by assumption)]; rfl)))), (e4.trans (int_eq (by first | omega | (rw [if_pos (by assumption)]; rfl) | (rw [if_neg (by assumption)]; rfl)))), e1, e2, r0⟩, ?_⟩
   · omega
   · simp only [m4, e4, intOf]; omega
 try simp only [decide_eq_false_iff_not, Int.not_lt] at hc3
 refine wp_exit ?_
 repeat (with_reducible refine then_exit ?_)
 refine exit_here ?_
 show Code.wp _ _ _ a13 w13
 refine wp_seq ?_
 refine region_St (bf := [0, 1]) (sp := [det _ 23 _, det _ 2 _]) [ib r0] mixed st13 (by kernel_rfl) ⟨r0, trivial⟩
  ⟨Ob.d fun c => r_move rfl (c.p e3),
  Ob.d fun c => r_assign rfl (c.n 0 rfl), trivial⟩ ?_
 intro a16 w16 τ16 st16 f16
 have e2 : get a16 2 = (.int .i64 ((if t.k = 5 then 1 else 0) + sumL ((t.kids.take k).map groupsF))) := f16.v 1 rfl
 clear f16
 show Code.wp _ _ _ a16 w16
 refine wp_ret ?_
 repeat (first | with_reducible refine then_ret ?_ | with_reducible refine block_ret ?_)
 refine ret1 (fn := Try.f27) rfl st16.defers e2 ?_
 have htk : sumL ((t.kids.take k).map groupsF) = sumL (t.kids.map groupsF) := by rw [List.take_of_length_le (by omega)]
 exact ⟨congrArg _ (int_eq (by omega)), st16.ext0⟩

theorem refGroups_c (t : Tr) : ∀ (w : World), TrS w t → partsF t ≤ 1000000000 → Calls Try.prog 27 #[t.v] w (fun e w' => e = .returned (.int .i64 (groupsF t)) ∧ Ext none' w w') := Tr.ind (P := fun t => ∀ (w : World), TrS w t → partsF t ≤ 1000000000 → Calls Try.prog 27 #[t.v] w (fun e w' => e = .returned (.int .i64 (groupsF t)) ∧ Ext none' w w')) refGroups_c_step t

set_option maxRecDepth 100000 in
theorem group_c (n : Int) (w : World) : Calls Try.prog 35 #[(.int .i64 (n))] w (fun e w' => e = .returned (.bool (decide (n = 5) || decide (n = 6))) ∧ Ext none' w w') := by
 refine enter (n := 9) Try.func35 rfl rfl (Nat.le_of_ble_eq_true rfl) ?_
 intro a0 τ0 ha st0
 have e0 : get a0 0 = (.int .i64 (n)) := ha 0 _ rfl
 clear ha
 refine wp_seq ?_
 refine region_St (bf := [0]) (sp := [det _ 2 _]) [] mixed st0 (by kernel_rfl) trivial
  ⟨Ob.d fun c => r_assign rfl rfl, trivial⟩ ?_
 intro a1 w1 τ1 st1 f1
 obtain ⟨e0, -⟩ := f1.ks [(0, _)] ⟨e0, trivial⟩
 have e2 : get a1 2 = (.bool (false)) := f1.v 0 rfl
 clear f1
 show Code.wp _ _ _ a1 w1
 refine wp_seq ?_
 refine region_St (bf := [0, 1, 3, 7, 15, 31, 63]) (sp := [det _ 3 _, det _ 4 _, det _ 5 _, gdet _ 6 _ _, gdet _ 7 _ _, det _ 8 _, det _ 2 _]) [] mixed st1 (by kernel_rfl) trivial
  ⟨Ob.d fun c => r_move rfl (c.p e0),
  Ob.d fun c => r_eql rfl (c.n 0 rfl) rfl,
  Ob.d fun c => r_move rfl (c.n 1 rfl),
  Ob.g 2 false rfl fun c hpc => r_move rfl (c.p e0),
  Ob.g 2 false rfl fun c hpc => r_eql rfl (c.m 3 rfl hpc) rfl,
  Ob.d fun c => r_or rfl (c.n 2 rfl) (fun h => c.m 4 rfl h),
  Ob.d fun c => r_assign rfl (c.n 5 rfl), trivial⟩ ?_
 intro a2 w2 τ2 st2 f2
 have e2 : get a2 2 = (.bool ((decide (n = 5)) || (decide (n = 6)))) := f2.v 6 rfl
 clear f2
 show Code.wp _ _ _ a2 w2
 refine wp_ret ?_
 repeat (first | with_reducible refine then_ret ?_ | with_reducible refine block_ret ?_)
 refine ret1 (fn := Try.f35) rfl st2.defers e2 ?_
 exact ⟨rfl, st2.ext0⟩

set_option maxRecDepth 100000 in
theorem deep_c_step (t : Tr) (ih : ∀ k ∈ t.kids, ∀ (w : World), TrS w k → partsF k ≤ 1000000000 → Calls Try.prog 23 #[k.v] w (fun e w' => e = .returned (.int .i64 (deepF k)) ∧ Ext none' w w')) (w : World) (hT : TrS w t) (hy0 : partsF t ≤ 1000000000) : Calls Try.prog 23 #[t.v] w (fun e w' => e = .returned (.int .i64 (deepF t)) ∧ Ext none' w w') := by
 refine enter (n := 24) Try.func23 rfl rfl (Nat.le_of_ble_eq_true rfl) ?_
 intro a0 τ0 ha st0
 have e0 : get a0 0 = (.agg #[(.int .i64 (t.k)), (.string (t.ch)), (.bool (t.ng)), t.rv.v, (.int .i64 (t.mn)), (.int .i64 (t.mx)), (.bool (t.lz)), t.kv.v]) := ha 0 _ rfl
 clear ha
 have hle := hT.kids.le
 have hf1 : ∀ q ∈ t.kids, 0 ≤ partsF q := fun q _ => by have := partsF_pos q; omega
 have hgb := deepF_bound t
 have hpe := deepF_eq t
 have hpm : ∀ k : Nat, k < t.kids.length → partsF (nth t.kids (k : Int)) ≤ 1000000000 := fun k h_ => by
   have h1_ := sum_mem hf1 (nth_memI (xs := t.kids) (i := (k : Int)) (by omega) (by omega))
   have h2_ := partsF_eq t
   omega
 refine wp_seq ?_
 refine region_St (bf := [0, 0]) (sp := [box _ _ 0 1 [(.int .i64 (t.k)), (.string (t.ch)), (.bool (t.ng)), t.rv.v, (.int .i64 (t.mn)), (.int .i64 (t.mx)), (.bool (t.lz)), t.kv.v], det _ 2 _]) [] mixed st0 (by kernel_rfl) trivial
  ⟨Ob.box (v := (.agg #[(.int .i64 (t.k)), (.string (t.ch)), (.bool (t.ng)), t.rv.v, (.int .i64 (t.mn)), (.int .i64 (t.mx)), (.bool (t.lz)), t.kv.v])) rfl rfl rfl rfl rfl (fun _ _ _ _ c => (c.p e0)),
  Ob.d fun c => r_assign rfl rfl, trivial⟩ ?_
 intro a1 w1 τ1 st1 f1
 obtain ⟨b1x1, e1⟩ : ∃ b, get a1 1 = b := ⟨_, rfl⟩
 have e2 : get a1 2 = (.int .i64 (0)) := f1.v 1 rfl
 have r0 : boxR 25 [(.int .i64 (t.k)), (.string (t.ch)), (.bool (t.ng)), t.rv.v, (.int .i64 (t.mn)), (.int .i64 (t.mx)), (.bool (t.lz)), t.kv.v] (τ1 0) b1x1 w1 := f1.rb 0 e1 rfl
 clear f1
 show Code.wp _ _ _ a1 w1
 refine wp_seq ?_
 refine region_St (bf := [0]) (sp := [det _ 3 _]) [ib r0] mixed st1 (by kernel_rfl) ⟨r0, trivial⟩
  ⟨Ob.d fun c => r_assign rfl rfl, trivial⟩ ?_
 intro a2 w2 τ2 st2 f2
 obtain ⟨e1, e2, -⟩ := f2.ks [(1, _), (2, _)] ⟨e1, e2, trivial⟩
 have e3 : get a2 3 = (.int .i64 (0)) := f2.v 0 rfl
 replace r0 := f2.ib 0 rfl
 clear f2
 show Code.wp _ _ _ a2 w2
 refine wp_seq ?_
 refine wp_seq ?_
 refine region_St (bf := [0, 1, 3, 0]) (sp := [det _ 6 _, det _ 7 _, det _ 8 _, det _ 9 _]) [ib r0] mixed st2 (by kernel_rfl) ⟨r0, trivial⟩
  ⟨Ob.d fun c => r_fieldAddr rfl Try.underlying25 rfl rfl Try.sizeOf23 ((c.p e1).trans r0.ptr),
  Ob.d fun c => r_load1 rfl Try.isAgg23 (c.n 0 rfl) ((c.ib 0 rfl).cell (j := 7) rfl),
  Ob.d fun c => r_len rfl Try.underlying23 (c.n 1 rfl) (hT.at st2.ext).tl.sl.sl,
  Ob.d fun c => r_move rfl rfl, trivial⟩ ?_
 intro a3 w3 τ3 st3 f3
 obtain ⟨e1, e2, e3, -⟩ := f3.ks [(1, _), (2, _), (3, _)] ⟨e1, e2, e3, trivial⟩
 have e7 : get a3 7 = t.kv.v := f3.v 1 rfl
 have e8 : get a3 8 = (.int .i64 ((t.kids.length : Int))) := f3.v 2 rfl
 have e9 : get a3 9 = (.int .i64 (0)) := f3.v 3 rfl
 replace r0 := f3.ib 0 rfl
 clear f3
 show Code.wp _ _ _ a3 w3
 refine wp_block ?_
 refine wp_loop (fun a_ w_ => ∃ (k : Nat) (τ : Nat → Foot), (k ≤ t.kids.length) ∧
      St (Nw w) w 24 a_ w_ τ ∧
      get a_ 3 = (.int .i64 (maxL ((t.kids.take k).map deepF))) ∧
      get a_ 9 = (.int .i64 ((k : Int))) ∧
      get a_ 1 = b1x1 ∧
      get a_ 2 = (.int .i64 (0)) ∧
      get a_ 7 = t.kv.v ∧
      get a_ 8 = (.int .i64 ((t.kids.length : Int))) ∧
      boxR 25 [(.int .i64 (t.k)), (.string (t.ch)), (.bool (t.ng)), t.rv.v, (.int .i64 (t.mn)), (.int .i64 (t.mx)), (.bool (t.lz)), t.kv.v] (τ 0) b1x1 w_) (fun a_ _ => t.kids.length - (intOf (get a_ 9)).toNat) ?_ ?_
 · refine ⟨0, τ3, ?_, st3, (e3.trans (int_eq (by first | omega | rfl | exact (maxL_step (by omega)).symm))), (e9.trans (int_eq (by first | omega | rfl | exact (maxL_step (by omega)).symm))), e1, e2, e7, e8, r0⟩
   · omega
 intro a4 w4 hI
 obtain ⟨k, τ4, q0, st4, e3, e9, e1, e2, e7, e8, r0⟩ := hI
 have hpk := hpm k
 have m9 := e9
 refine wp_seq ?_
 refine region_St (bf := [0]) (sp := [det _ 10 _]) [ib r0] mixed st4 (by kernel_rfl) ⟨r0, trivial⟩
  ⟨Ob.d fun c => r_lss rfl (c.p e9) (c.p e8), trivial⟩ ?_
 intro a5 w5 τ5 st5 f5
 obtain ⟨e1, e2, e3, e7, e8, e9, -⟩ := f5.ks [(1, _), (2, _), (3, _), (7, _), (8, _), (9, _)] ⟨e1, e2, e3, e7, e8, e9, trivial⟩
 have e10 : get a5 10 = (.bool (decide ((k : Int) < (t.kids.length : Int)))) := f5.v 0 rfl
 replace r0 := f5.ib 0 rfl
 clear f5
 show Code.wp _ _ _ a5 w5
 refine wp_seq ?_
 refine wp_cond_split (t := decide ((k : Int) < (t.kids.length : Int))) e10 (fun hc1 => ?_) (fun hc1 => ?_)
 · try simp only [decide_eq_true_eq] at hc1
   refine wp_skip ?_
   show Code.wp _ _ _ a5 w5
   refine wp_seq ?_
   refine wp_block ?_
   refine wp_seq ?_
   refine region_St (bf := [0, 1, 0, 7]) (sp := [det _ 11 _, det _ 12 _, box _ _ 1 5 [(.int .i64 (0)), (.string ((⟨#[]⟩ : ByteArray))), (.bool (false)), (.slice none 0 0), (.int .i64 (0)), (.int .i64 (0)), (.bool (false)), (.slice none 0 0)], box _ _ 1 5 [(.int .i64 ((nth t.kids ((k : Int))).k)), (.string ((nth t.kids ((k : Int))).ch)), (.bool ((nth t.kids ((k : Int))).ng)), (nth t.kids ((k : Int))).rv.v, (.int .i64 ((nth t.kids ((k : Int))).mn)), (.int .i64 ((nth t.kids ((k : Int))).mx)), (.bool ((nth t.kids ((k : Int))).lz)), (nth t.kids ((k : Int))).kv.v]]) [ib r0] mixed st5 (by kernel_rfl) ⟨r0, trivial⟩
    ⟨Ob.d fun c => r_indexAddr rfl Try.underlying23 Try.sizeOf25 (c.p e7) (hT.at st5.ext).tl.sl.sl (c.p e9) (by omega) (by omega),
    Ob.d fun c => r_loadN (vs := [(.int .i64 ((nth t.kids ((k : Int))).k)), (.string ((nth t.kids ((k : Int))).ch)), (.bool ((nth t.kids ((k : Int))).ng)), (nth t.kids ((k : Int))).rv.v, (.int .i64 ((nth t.kids ((k : Int))).mn)), (.int .i64 ((nth t.kids ((k : Int))).mx)), (.bool ((nth t.kids ((k : Int))).lz)), (nth t.kids ((k : Int))).kv.v]) rfl Try.isAgg25 Try.sizeOf25 (c.n 0 rfl) rfl (fun _ _ hj => ((hT.at (st5.ext.trans c.J.ext)).tl.sl).elem (nth_some (i := (k : Int)) (by omega) (by omega)) hj),
    Ob.alloc rfl rfl rfl rfl Try.zeroValue25 rfl,
    Ob.storeBox (off := 0) (v := (.agg #[(.int .i64 ((nth t.kids ((k : Int))).k)), (.string ((nth t.kids ((k : Int))).ch)), (.bool ((nth t.kids ((k : Int))).ng)), (nth t.kids ((k : Int))).rv.v, (.int .i64 ((nth t.kids ((k : Int))).mn)), (.int .i64 ((nth t.kids ((k : Int))).mx)), (.bool ((nth t.kids ((k : Int))).lz)), (nth t.kids ((k : Int))).kv.v])) rfl rfl rfl rfl Try.sizeOf25 (Nat.le_of_ble_eq_true rfl) (by simp [Value.cells, Value.oneCell', Sv.v]) rfl (fun _ _ _ _ c => ⟨c.rb 2 rfl, (c.rb 2 rfl).ptr, (c.n 1 rfl)⟩), trivial⟩ ?_
   intro a6 w6 τ6 st6 f6
   obtain ⟨b6x5, e5⟩ : ∃ b, get a6 5 = b := ⟨_, rfl⟩
   obtain ⟨e1, e2, e3, e7, e8, e9, e10, -⟩ := f6.ks [(1, _), (2, _), (3, _), (7, _), (8, _), (9, _), (10, _)] ⟨e1, e2, e3, e7, e8, e9, e10, trivial⟩
   replace r0 := f6.ib 0 rfl
   have r1 : boxR 25 [(.int .i64 ((nth t.kids ((k : Int))).k)), (.string ((nth t.kids ((k : Int))).ch)), (.bool ((nth t.kids ((k : Int))).ng)), (nth t.kids ((k : Int))).rv.v, (.int .i64 ((nth t.kids ((k : Int))).mn)), (.int .i64 ((nth t.kids ((k : Int))).mx)), (.bool ((nth t.kids ((k : Int))).lz)), (nth t.kids ((k : Int))).kv.v] (τ6 1) b6x5 w6 := f6.rb 3 e5 rfl
   clear f6
   show Code.wp _ _ _ a6 w6
   refine region_St (bf := [0, 0, 2, 7, 15]) (sp := [det _ 13 _, det _ 14 _, det _ 15 _, det _ 16 _, det _ 3 _]) [ib r0, ib r1] mixed st6 (by kernel_rfl) ⟨r0, r1, trivial⟩
    ⟨Ob.d fun c => r_move rfl (c.p e3),
    Ob.d fun c => r_loadN (vs := [(.int .i64 ((nth t.kids ((k : Int))).k)), (.string ((nth t.kids ((k : Int))).ch)), (.bool ((nth t.kids ((k : Int))).ng)), (nth t.kids ((k : Int))).rv.v, (.int .i64 ((nth t.kids ((k : Int))).mn)), (.int .i64 ((nth t.kids ((k : Int))).mx)), (.bool ((nth t.kids ((k : Int))).lz)), (nth t.kids ((k : Int))).kv.v]) rfl Try.isAgg25 Try.sizeOf25 ((c.p e5).trans r1.ptr) rfl (fun _ _ hj => (c.ib 1 rfl).cell hj),
    Ob.c fun c => ⟨_, _, (e_call1 rfl rfl Try.call23 (c.n 1 rfl)), ih _ (nth_memI (by omega) (by omega)) _ ((hT.at (st6.ext.trans c.J.ext)).tl.el (by omega) (by omega)) (by omega)⟩,
    Ob.d fun c => r_max rfl (c.n 0 rfl) (c.n 2 rfl),
    Ob.d fun c => r_assign rfl (c.n 3 rfl), trivial⟩ ?_
   intro a7 w7 τ7 st7 f7
   obtain ⟨e1, e2, e5, e7, e8, e9, e10, -⟩ := f7.ks [(1, _), (2, _), (5, _), (7, _), (8, _), (9, _), (10, _)] ⟨e1, e2, e5, e7, e8, e9, e10, trivial⟩
   have e3 : get a7 3 = (.int .i64 (max (maxL ((t.kids.take k).map deepF)) (deepF (nth t.kids ((k : Int)))))) := f7.v 4 rfl
   replace r0 := f7.ib 0 rfl
   replace r1 := f7.ib 1 rfl
   clear f7
   show _
   show Code.wp _ _ _ a7 w7
   refine region_St (bf := [0, 1]) (sp := [det _ 17 _, det _ 9 _]) [ib r0, ib r1] mixed st7 (by kernel_rfl) ⟨r0, r1, trivial⟩
    ⟨Ob.d fun c => r_add rfl (c.p e9) rfl (by omega),
    Ob.d fun c => r_move rfl (c.n 0 rfl), trivial⟩ ?_
   intro a8 w8 τ8 st8 f8
   obtain ⟨e1, e2, e3, e5, e7, e8, e10, -⟩ := f8.ks [(1, _), (2, _), (3, _), (5, _), (7, _), (8, _), (10, _)] ⟨e1, e2, e3, e5, e7, e8, e10, trivial⟩
   have e9 : get a8 9 = (.int .i64 ((k : Int) + 1)) := f8.v 1 rfl
   replace r0 := f8.ib 0 rfl
   replace r1 := f8.ib 1 rfl
   clear f8
   refine ⟨⟨k + 1, τ8, ?_, st8, (e3.trans (int_eq (by first | omega | rfl | exact (maxL_step (by omega)).symm))), (e9.trans (int_eq (by first | omega | rfl | exact (maxL_step (by omega)).symm))), e1, e2, e7, e8, r0⟩, ?_⟩
   · omega
   · simp only [m9, e9, intOf]; omega
 try simp only [decide_eq_false_iff_not, Int.not_lt] at hc1
 refine wp_exit ?_
 repeat (with_reducible refine then_exit ?_)
 refine exit_here ?_
 show Code.wp _ _ _ a5 w5
 refine wp_seq ?_
 refine wp_seq ?_
 refine region_St (bf := [0, 1, 3]) (sp := [det _ 18 _, det _ 19 _, det _ 20 _]) [ib r0] mixed st5 (by kernel_rfl) ⟨r0, trivial⟩
  ⟨Ob.d fun c => r_fieldAddr rfl Try.underlying25 rfl rfl Try.sizeOf3 ((c.p e1).trans r0.ptr),
  Ob.d fun c => r_load1 rfl Try.isAgg3 (c.n 0 rfl) ((c.ib 0 rfl).cell (j := 0) rfl),
  Ob.c fun c => ⟨_, _, (e_call1 rfl rfl Try.call35 (c.n 1 rfl)), group_c t.k _⟩, trivial⟩ ?_
 intro a9 w9 τ9 st9 f9
 obtain ⟨e2, e3, -⟩ := f9.ks [(2, _), (3, _)] ⟨e2, e3, trivial⟩
 have e20 : get a9 20 = (.bool (decide (t.k = 5) || decide (t.k = 6))) := f9.v 2 rfl
 clear f9
 show Code.wp _ _ _ a9 w9
 refine wp_cond_split (t := decide (t.k = 5) || decide (t.k = 6)) e20 (fun hc2 => ?_) (fun hc2 => ?_)
 · have hd2 := hc2; try simp only [Bool.or_eq_true, decide_eq_true_eq] at hd2
   have hmp := maxL_pos ((t.kids.take k).map deepF)
   have hmd : maxL ((t.kids.take k).map deepF) ≤ 1000000000 := by rw [List.take_of_length_le (by omega)]; have h_ : (0 : Int) ≤ (if grpB t = true then 1 else 0) := (by split <;> omega); omega
   refine region_St (bf := [0, 1, 3]) (sp := [det _ 21 _, det _ 22 _, det _ 3 _]) [] mixed st9 (by kernel_rfl) trivial
    ⟨Ob.d fun c => r_move rfl (c.p e3),
    Ob.d fun c => r_add rfl (c.n 0 rfl) rfl (by omega),
    Ob.d fun c => r_assign rfl (c.n 1 rfl), trivial⟩ ?_
   intro a10 w10 τ10 st10 f10
   obtain ⟨e2, -⟩ := f10.ks [(2, _)] ⟨e2, trivial⟩
   have e3 : get a10 3 = (.int .i64 (maxL ((t.kids.take k).map deepF) + 1)) := f10.v 2 rfl
   clear f10
   show Code.wp _ _ _ a10 w10
   refine wp_seq ?_
   refine region_St (bf := [0, 1]) (sp := [det _ 23 _, det _ 2 _]) [] mixed st10 (by kernel_rfl) trivial
    ⟨Ob.d fun c => r_move rfl (c.p e3),
    Ob.d fun c => r_assign rfl (c.n 0 rfl), trivial⟩ ?_
   intro a11 w11 τ11 st11 f11
   have e2 : get a11 2 = (.int .i64 (maxL ((t.kids.take k).map deepF) + 1)) := f11.v 1 rfl
   clear f11
   show Code.wp _ _ _ a11 w11
   refine wp_ret ?_
   repeat (first | with_reducible refine then_ret ?_ | with_reducible refine block_ret ?_)
   refine ret1 (fn := Try.f23) rfl st11.defers e2 ?_
   have htk : maxL ((t.kids.take k).map deepF) = maxL (t.kids.map deepF) := by rw [List.take_of_length_le (by omega)]
   exact ⟨congrArg _ (int_eq (by rw [hpe, htk]; unfold grpB; first | (rw [if_pos (by simpa using (by assumption))]) | (rw [if_neg (by simpa using (by assumption))]; omega))), st11.ext0⟩
 have hd2 := hc2; try simp only [Bool.or_eq_false_iff, decide_eq_false_iff_not] at hd2
 refine wp_skip ?_
 show Code.wp _ _ _ a9 w9
 refine wp_seq ?_
 refine region_St (bf := [0, 1]) (sp := [det _ 23 _, det _ 2 _]) [] mixed st9 (by kernel_rfl) trivial
  ⟨Ob.d fun c => r_move rfl (c.p e3),
  Ob.d fun c => r_assign rfl (c.n 0 rfl), trivial⟩ ?_
 intro a12 w12 τ12 st12 f12
 have e2 : get a12 2 = (.int .i64 (maxL ((t.kids.take k).map deepF))) := f12.v 1 rfl
 clear f12
 show Code.wp _ _ _ a12 w12
 refine wp_ret ?_
 repeat (first | with_reducible refine then_ret ?_ | with_reducible refine block_ret ?_)
 refine ret1 (fn := Try.f23) rfl st12.defers e2 ?_
 have htk : maxL ((t.kids.take k).map deepF) = maxL (t.kids.map deepF) := by rw [List.take_of_length_le (by omega)]
 exact ⟨congrArg _ (int_eq (by rw [hpe, htk]; unfold grpB; first | (rw [if_pos (by simpa using (by assumption))]) | (rw [if_neg (by simpa using (by assumption))]; omega))), st12.ext0⟩

theorem deep_c (t : Tr) : ∀ (w : World), TrS w t → partsF t ≤ 1000000000 → Calls Try.prog 23 #[t.v] w (fun e w' => e = .returned (.int .i64 (deepF t)) ∧ Ext none' w w') := Tr.ind (P := fun t => ∀ (w : World), TrS w t → partsF t ≤ 1000000000 → Calls Try.prog 23 #[t.v] w (fun e w' => e = .returned (.int .i64 (deepF t)) ∧ Ext none' w w')) deep_c_step t

set_option maxRecDepth 100000 in
theorem refDeep_c_step (t : Tr) (ih : ∀ k ∈ t.kids, ∀ (w : World), TrS w k → partsF k ≤ 1000000000 → Calls Try.prog 28 #[k.v] w (fun e w' => e = .returned (.int .i64 (deepF k)) ∧ Ext none' w w')) (w : World) (hT : TrS w t) (hy0 : partsF t ≤ 1000000000) : Calls Try.prog 28 #[t.v] w (fun e w' => e = .returned (.int .i64 (deepF t)) ∧ Ext none' w w') := by
 refine enter (n := 31) Try.func28 rfl rfl (Nat.le_of_ble_eq_true rfl) ?_
 intro a0 τ0 ha st0
 have e0 : get a0 0 = (.agg #[(.int .i64 (t.k)), (.string (t.ch)), (.bool (t.ng)), t.rv.v, (.int .i64 (t.mn)), (.int .i64 (t.mx)), (.bool (t.lz)), t.kv.v]) := ha 0 _ rfl
 clear ha
 have hle := hT.kids.le
 have hf1 : ∀ q ∈ t.kids, 0 ≤ partsF q := fun q _ => by have := partsF_pos q; omega
 have hgb := deepF_bound t
 have hpe := deepF_eq t
 have hpm : ∀ k : Nat, k < t.kids.length → partsF (nth t.kids (k : Int)) ≤ 1000000000 := fun k h_ => by
   have h1_ := sum_mem hf1 (nth_memI (xs := t.kids) (i := (k : Int)) (by omega) (by omega))
   have h2_ := partsF_eq t
   omega
 refine wp_seq ?_
 refine region_St (bf := [0, 0]) (sp := [box _ _ 0 1 [(.int .i64 (t.k)), (.string (t.ch)), (.bool (t.ng)), t.rv.v, (.int .i64 (t.mn)), (.int .i64 (t.mx)), (.bool (t.lz)), t.kv.v], det _ 2 _]) [] mixed st0 (by kernel_rfl) trivial
  ⟨Ob.box (v := (.agg #[(.int .i64 (t.k)), (.string (t.ch)), (.bool (t.ng)), t.rv.v, (.int .i64 (t.mn)), (.int .i64 (t.mx)), (.bool (t.lz)), t.kv.v])) rfl rfl rfl rfl rfl (fun _ _ _ _ c => (c.p e0)),
  Ob.d fun c => r_assign rfl rfl, trivial⟩ ?_
 intro a1 w1 τ1 st1 f1
 obtain ⟨b1x1, e1⟩ : ∃ b, get a1 1 = b := ⟨_, rfl⟩
 have e2 : get a1 2 = (.int .i64 (0)) := f1.v 1 rfl
 have r0 : boxR 25 [(.int .i64 (t.k)), (.string (t.ch)), (.bool (t.ng)), t.rv.v, (.int .i64 (t.mn)), (.int .i64 (t.mx)), (.bool (t.lz)), t.kv.v] (τ1 0) b1x1 w1 := f1.rb 0 e1 rfl
 clear f1
 show Code.wp _ _ _ a1 w1
 refine wp_seq ?_
 refine region_St (bf := [0]) (sp := [det _ 3 _]) [ib r0] mixed st1 (by kernel_rfl) ⟨r0, trivial⟩
  ⟨Ob.d fun c => r_assign rfl rfl, trivial⟩ ?_
 intro a2 w2 τ2 st2 f2
 obtain ⟨e1, e2, -⟩ := f2.ks [(1, _), (2, _)] ⟨e1, e2, trivial⟩
 have e3 : get a2 3 = (.int .i64 (0)) := f2.v 0 rfl
 replace r0 := f2.ib 0 rfl
 clear f2
 show Code.wp _ _ _ a2 w2
 refine wp_seq ?_
 refine wp_seq ?_
 refine region_St (bf := [0]) (sp := [det _ 4 _]) [ib r0] mixed st2 (by kernel_rfl) ⟨r0, trivial⟩
  ⟨Ob.d fun c => r_assign rfl rfl, trivial⟩ ?_
 intro a3 w3 τ3 st3 f3
 obtain ⟨e1, e2, e3, -⟩ := f3.ks [(1, _), (2, _), (3, _)] ⟨e1, e2, e3, trivial⟩
 have e4 : get a3 4 = (.int .i64 (0)) := f3.v 0 rfl
 replace r0 := f3.ib 0 rfl
 clear f3
 show Code.wp _ _ _ a3 w3
 refine wp_block ?_
 refine wp_loop (fun a_ w_ => ∃ (k : Nat) (τ : Nat → Foot), (k ≤ t.kids.length) ∧
      St (Nw w) w 31 a_ w_ τ ∧
      get a_ 3 = (.int .i64 (maxL ((t.kids.take k).map deepF))) ∧
      get a_ 4 = (.int .i64 ((k : Int))) ∧
      get a_ 1 = b1x1 ∧
      get a_ 2 = (.int .i64 (0)) ∧
      boxR 25 [(.int .i64 (t.k)), (.string (t.ch)), (.bool (t.ng)), t.rv.v, (.int .i64 (t.mn)), (.int .i64 (t.mx)), (.bool (t.lz)), t.kv.v] (τ 0) b1x1 w_) (fun a_ _ => t.kids.length - (intOf (get a_ 4)).toNat) ?_ ?_
 · refine ⟨0, τ3, ?_, st3, (e3.trans (int_eq (by first | omega | rfl | exact (maxL_step (by omega)).symm))), (e4.trans (int_eq (by first | omega | rfl | exact (maxL_step (by omega)).symm))), e1, e2, r0⟩
   · omega
 intro a4 w4 hI
 obtain ⟨k, τ4, q0, st4, e3, e4, e1, e2, r0⟩ := hI
 have hpk := hpm k
 have m4 := e4
 refine wp_seq ?_
 refine wp_seq ?_
 refine region_St (bf := [0, 0, 2, 6, 15]) (sp := [det _ 5 _, det _ 6 _, det _ 7 _, det _ 8 _, det _ 9 _]) [ib r0] mixed st4 (by kernel_rfl) ⟨r0, trivial⟩
  ⟨Ob.d fun c => r_move rfl (c.p e4),
  Ob.d fun c => r_fieldAddr rfl Try.underlying25 rfl rfl Try.sizeOf23 ((c.p e1).trans r0.ptr),
  Ob.d fun c => r_load1 rfl Try.isAgg23 (c.n 1 rfl) ((c.ib 0 rfl).cell (j := 7) rfl),
  Ob.d fun c => r_len rfl Try.underlying23 (c.n 2 rfl) (hT.at st4.ext).tl.sl.sl,
  Ob.d fun c => r_lss rfl (c.n 0 rfl) (c.n 3 rfl), trivial⟩ ?_
 intro a5 w5 τ5 st5 f5
 obtain ⟨e1, e2, e3, e4, -⟩ := f5.ks [(1, _), (2, _), (3, _), (4, _)] ⟨e1, e2, e3, e4, trivial⟩
 have e9 : get a5 9 = (.bool (decide ((k : Int) < (t.kids.length : Int)))) := f5.v 4 rfl
 replace r0 := f5.ib 0 rfl
 clear f5
 show Code.wp _ _ _ a5 w5
 refine wp_cond_split (t := decide ((k : Int) < (t.kids.length : Int))) e9 (fun hc1 => ?_) (fun hc1 => ?_)
 · try simp only [decide_eq_true_eq] at hc1
   refine wp_skip ?_
   show Code.wp _ _ _ a5 w5
   refine wp_seq ?_
   refine wp_block ?_
   refine region_St (bf := [0, 0, 2, 0, 14, 30, 62, 127, 255]) (sp := [det _ 12 _, det _ 13 _, det _ 14 _, det _ 15 _, det _ 16 _, det _ 17 _, det _ 18 _, det _ 19 _, det _ 3 _]) [ib r0] mixed st5 (by kernel_rfl) ⟨r0, trivial⟩
    ⟨Ob.d fun c => r_move rfl (c.p e3),
    Ob.d fun c => r_fieldAddr rfl Try.underlying25 rfl rfl Try.sizeOf23 ((c.p e1).trans r0.ptr),
    Ob.d fun c => r_load1 rfl Try.isAgg23 (c.n 1 rfl) ((c.ib 0 rfl).cell (j := 7) rfl),
    Ob.d fun c => r_move rfl (c.p e4),
    Ob.d fun c => r_indexAddr rfl Try.underlying23 Try.sizeOf25 (c.n 2 rfl) (hT.at st5.ext).tl.sl.sl (c.n 3 rfl) (by omega) (by omega),
    Ob.d fun c => r_loadN (vs := [(.int .i64 ((nth t.kids ((k : Int))).k)), (.string ((nth t.kids ((k : Int))).ch)), (.bool ((nth t.kids ((k : Int))).ng)), (nth t.kids ((k : Int))).rv.v, (.int .i64 ((nth t.kids ((k : Int))).mn)), (.int .i64 ((nth t.kids ((k : Int))).mx)), (.bool ((nth t.kids ((k : Int))).lz)), (nth t.kids ((k : Int))).kv.v]) rfl Try.isAgg25 Try.sizeOf25 (c.n 4 rfl) rfl (fun _ _ hj => ((hT.at (st5.ext.trans c.J.ext)).tl.sl).elem (nth_some (i := (k : Int)) (by omega) (by omega)) hj),
    Ob.c fun c => ⟨_, _, (e_call1 rfl rfl Try.call28 (c.n 5 rfl)), ih _ (nth_memI (by omega) (by omega)) _ ((hT.at (st5.ext.trans c.J.ext)).tl.el (by omega) (by omega)) (by omega)⟩,
    Ob.d fun c => r_max rfl (c.n 0 rfl) (c.n 6 rfl),
    Ob.d fun c => r_assign rfl (c.n 7 rfl), trivial⟩ ?_
   intro a6 w6 τ6 st6 f6
   obtain ⟨e1, e2, e4, e9, -⟩ := f6.ks [(1, _), (2, _), (4, _), (9, _)] ⟨e1, e2, e4, e9, trivial⟩
   have e3 : get a6 3 = (.int .i64 (max (maxL ((t.kids.take k).map deepF)) (deepF (nth t.kids ((k : Int)))))) := f6.v 8 rfl
   replace r0 := f6.ib 0 rfl
   clear f6
   show _
   show Code.wp _ _ _ a6 w6
   refine region_St (bf := [0, 1, 3]) (sp := [det _ 10 _, det _ 11 _, det _ 4 _]) [ib r0] mixed st6 (by kernel_rfl) ⟨r0, trivial⟩
    ⟨Ob.d fun c => r_move rfl (c.p e4),
    Ob.d fun c => r_add rfl (c.n 0 rfl) rfl (by omega),
    Ob.d fun c => r_assign rfl (c.n 1 rfl), trivial⟩ ?_
   intro a7 w7 τ7 st7 f7
   obtain ⟨e1, e2, e3, e9, -⟩ := f7.ks [(1, _), (2, _), (3, _), (9, _)] ⟨e1, e2, e3, e9, trivial⟩
   have e4 : get a7 4 = (.int .i64 ((k : Int) + 1)) := f7.v 2 rfl
   replace r0 := f7.ib 0 rfl
   clear f7
   refine ⟨⟨k + 1, τ7, ?_, st7, (e3.trans (int_eq (by first | omega | rfl | exact (maxL_step (by omega)).symm))), (e4.trans (int_eq (by first | omega | rfl | exact (maxL_step (by omega)).symm))), e1, e2, r0⟩, ?_⟩
   · omega
   · simp only [m4, e4, intOf]; omega
 try simp only [decide_eq_false_iff_not, Int.not_lt] at hc1
 refine wp_exit ?_
 repeat (with_reducible refine then_exit ?_)
 refine exit_here ?_
 show Code.wp _ _ _ a5 w5
 refine wp_seq ?_
 refine wp_seq ?_
 refine region_St (bf := [0, 1, 3, 7, 15, 31, 63, 127]) (sp := [det _ 20 _, det _ 21 _, det _ 22 _, det _ 23 _, gdet _ 24 _ _, gdet _ 25 _ _, gdet _ 26 _ _, det _ 27 _]) [ib r0] mixed st5 (by kernel_rfl) ⟨r0, trivial⟩
  ⟨Ob.d fun c => r_fieldAddr rfl Try.underlying25 rfl rfl Try.sizeOf3 ((c.p e1).trans r0.ptr),
  Ob.d fun c => r_load1 rfl Try.isAgg3 (c.n 0 rfl) ((c.ib 0 rfl).cell (j := 0) rfl),
  Ob.d fun c => r_eql rfl (c.n 1 rfl) rfl,
  Ob.d fun c => r_move rfl (c.n 2 rfl),
  Ob.g 3 false rfl fun c hpc => r_fieldAddr rfl Try.underlying25 rfl rfl Try.sizeOf3 ((c.p e1).trans r0.ptr),
  Ob.g 3 false rfl fun c hpc => r_load1 rfl Try.isAgg3 (c.m 4 rfl hpc) ((c.ib 0 rfl).cell (j := 0) rfl),
  Ob.g 3 false rfl fun c hpc => r_eql rfl (c.m 5 rfl hpc) rfl,
  Ob.d fun c => r_or rfl (c.n 3 rfl) (fun h => c.m 6 rfl h), trivial⟩ ?_
 intro a8 w8 τ8 st8 f8
 obtain ⟨e2, e3, -⟩ := f8.ks [(2, _), (3, _)] ⟨e2, e3, trivial⟩
 have e27 : get a8 27 = (.bool ((decide (t.k = 5)) || (decide (t.k = 6)))) := f8.v 7 rfl
 clear f8
 show Code.wp _ _ _ a8 w8
 refine wp_cond_split (t := (decide (t.k = 5)) || (decide (t.k = 6))) e27 (fun hc2 => ?_) (fun hc2 => ?_)
 · have hd2 := hc2; try simp only [Bool.or_eq_true, decide_eq_true_eq] at hd2
   have hmp := maxL_pos ((t.kids.take k).map deepF)
   have hmd : maxL ((t.kids.take k).map deepF) ≤ 1000000000 := by rw [List.take_of_length_le (by omega)]; have h_ : (0 : Int) ≤ (if grpB t = true then 1 else 0) := (by split <;> omega); omega
   refine region_St (bf := [0, 1, 3]) (sp := [det _ 28 _, det _ 29 _, det _ 3 _]) [] mixed st8 (by kernel_rfl) trivial
    ⟨Ob.d fun c => r_move rfl (c.p e3),
    Ob.d fun c => r_add rfl (c.n 0 rfl) rfl (by omega),
    Ob.d fun c => r_assign rfl (c.n 1 rfl), trivial⟩ ?_
   intro a9 w9 τ9 st9 f9
   obtain ⟨e2, -⟩ := f9.ks [(2, _)] ⟨e2, trivial⟩
   have e3 : get a9 3 = (.int .i64 (maxL ((t.kids.take k).map deepF) + 1)) := f9.v 2 rfl
   clear f9
   show Code.wp _ _ _ a9 w9
   refine wp_seq ?_
   refine region_St (bf := [0, 1]) (sp := [det _ 30 _, det _ 2 _]) [] mixed st9 (by kernel_rfl) trivial
    ⟨Ob.d fun c => r_move rfl (c.p e3),
    Ob.d fun c => r_assign rfl (c.n 0 rfl), trivial⟩ ?_
   intro a10 w10 τ10 st10 f10
   have e2 : get a10 2 = (.int .i64 (maxL ((t.kids.take k).map deepF) + 1)) := f10.v 1 rfl
   clear f10
   show Code.wp _ _ _ a10 w10
   refine wp_ret ?_
   repeat (first | with_reducible refine then_ret ?_ | with_reducible refine block_ret ?_)
   refine ret1 (fn := Try.f28) rfl st10.defers e2 ?_
   have htk : maxL ((t.kids.take k).map deepF) = maxL (t.kids.map deepF) := by rw [List.take_of_length_le (by omega)]
   exact ⟨congrArg _ (int_eq (by rw [hpe, htk]; unfold grpB; first | (rw [if_pos (by simpa using (by assumption))]) | (rw [if_neg (by simpa using (by assumption))]; omega))), st10.ext0⟩
 have hd2 := hc2; try simp only [Bool.or_eq_false_iff, decide_eq_false_iff_not] at hd2
 refine wp_skip ?_
 show Code.wp _ _ _ a8 w8
 refine wp_seq ?_
 refine region_St (bf := [0, 1]) (sp := [det _ 30 _, det _ 2 _]) [] mixed st8 (by kernel_rfl) trivial
  ⟨Ob.d fun c => r_move rfl (c.p e3),
  Ob.d fun c => r_assign rfl (c.n 0 rfl), trivial⟩ ?_
 intro a11 w11 τ11 st11 f11
 have e2 : get a11 2 = (.int .i64 (maxL ((t.kids.take k).map deepF))) := f11.v 1 rfl
 clear f11
 show Code.wp _ _ _ a11 w11
 refine wp_ret ?_
 repeat (first | with_reducible refine then_ret ?_ | with_reducible refine block_ret ?_)
 refine ret1 (fn := Try.f28) rfl st11.defers e2 ?_
 have htk : maxL ((t.kids.take k).map deepF) = maxL (t.kids.map deepF) := by rw [List.take_of_length_le (by omega)]
 exact ⟨congrArg _ (int_eq (by rw [hpe, htk]; unfold grpB; first | (rw [if_pos (by simpa using (by assumption))]) | (rw [if_neg (by simpa using (by assumption))]; omega))), st11.ext0⟩

theorem refDeep_c (t : Tr) : ∀ (w : World), TrS w t → partsF t ≤ 1000000000 → Calls Try.prog 28 #[t.v] w (fun e w' => e = .returned (.int .i64 (deepF t)) ∧ Ext none' w w') := Tr.ind (P := fun t => ∀ (w : World), TrS w t → partsF t ≤ 1000000000 → Calls Try.prog 28 #[t.v] w (fun e w' => e = .returned (.int .i64 (deepF t)) ∧ Ext none' w w')) refDeep_c_step t
end B
end Go.Proofs.Ytocmchlhbniloaa
