/-
  Walks, printed by a program (gen.py): TrJ.
-/
import Derived.Test.YtocmchlhbniloaaTrI
set_option linter.unusedSimpArgs false
set_option linter.unusedVariables false
namespace Go.Proofs.Ytocmchlhbniloaa
namespace B
open Go.RowKit
open Srt
theorem wt_at {xs : List Tr} {k : Nat} (h : k < xs.length) : wtF (nth xs (k : Int)) ≤ sumL (xs.map wtF) ∧ sumL ((xs.take (k + 1)).map wtF) = sumL ((xs.take k).map wtF) + wtF (nth xs (k : Int)) ∧ sumL ((xs.take (k + 1)).map wtF) ≤ sumL (xs.map wtF) :=
  ⟨sum_mem (fun t _ => by have := wtF_pos t; omega) (nth_memI (by omega) (by omega)), sum_step h, (sum_le (fun t _ => by have := wtF_pos t; omega) _).2⟩
theorem flat_roomw {ts xs : List Tr} {k : Int} {n : Nat} (hq : ts.map er = flatF k ((xs.take n).map er)) : (ts.length : Int) ≤ sumL ((xs.take n).map wtF) := by
  have h := flat_room hq
  have h1 : ∀ l : List Tr, sumL (l.map partsF) ≤ sumL (l.map wtF) := by
    intro l
    induction l using snoc_ind with
    | h0 => exact Int.le_refl _
    | h1 l x ih =>
      rw [List.map_append, List.map_append, List.map_cons, List.map_nil, List.map_cons, List.map_nil, sumL_snoc, sumL_snoc]
      have := parts_wt x
      omega
  have := h1 (xs.take n)
  omega

set_option maxRecDepth 100000 in
theorem flat_c (kind : Int) (v : Value) (xs : List Tr) (w : World) (hS : TlS w v xs) (hP : sumL (xs.map wtF) ≤ 1000000) : Calls Try.prog 31 #[(.int .i64 (kind)), v] w (fun e w' => ∃ v' ts, e = .returned v' ∧ Ext none' w w' ∧ NewT TrE 25 w w' v' ts ∧ (∀ t ∈ ts, TrT (fun g => (Gn none' w) g ∧ v'.ownBlock ≠ some g) w' t) ∧ ts.map er = flatF kind (xs.map er)) := by
 refine enter (n := 30) Try.func31 rfl rfl (Nat.le_of_ble_eq_true rfl) ?_
 intro a0 τ0 ha st0
 have e0 : get a0 0 = (.int .i64 (kind)) := ha 0 _ rfl
 have e1 : get a0 1 = v := ha 1 _ rfl
 clear ha
 have hle := hS.sl.le
 refine wp_seq ?_
 refine region_St (bf := [0]) (sp := [det _ 4 _]) [] mixed st0 (by kernel_rfl) trivial
  ⟨Ob.d fun c => r_assign rfl rfl, trivial⟩ ?_
 intro a1 w1 τ1 st1 f1
 obtain ⟨e0, e1, -⟩ := f1.ks [(0, _), (1, _)] ⟨e0, e1, trivial⟩
 have e4 : get a1 4 = (.slice none 0 0) := f1.v 0 rfl
 clear f1
 show Code.wp _ _ _ a1 w1
 refine wp_seq ?_
 refine region_St (bf := [0]) (sp := [det _ 5 _]) [] mixed st1 (by kernel_rfl) trivial
  ⟨Ob.d fun c => r_assign rfl rfl, trivial⟩ ?_
 intro a2 w2 τ2 st2 f2
 obtain ⟨e0, e1, e4, -⟩ := f2.ks [(0, _), (1, _), (4, _)] ⟨e0, e1, e4, trivial⟩
 have e5 : get a2 5 = (.slice none 0 0) := f2.v 0 rfl
 clear f2
 show Code.wp _ _ _ a2 w2
 refine wp_seq ?_
 refine wp_seq ?_
 refine region_St (bf := [0, 1, 0]) (sp := [det _ 8 _, det _ 9 _, det _ 10 _]) [] mixed st2 (by kernel_rfl) trivial
  ⟨Ob.d fun c => r_move rfl (c.p e1),
  Ob.d fun c => r_len rfl Try.underlying23 (c.n 0 rfl) (hS.at st2.ext).sl.sl,
  Ob.d fun c => r_move rfl rfl, trivial⟩ ?_
 intro a3 w3 τ3 st3 f3
 obtain ⟨e0, e4, e5, -⟩ := f3.ks [(0, _), (4, _), (5, _)] ⟨e0, e4, e5, trivial⟩
 have e8 : get a3 8 = v := f3.v 0 rfl
 have e9 : get a3 9 = (.int .i64 ((xs.length : Int))) := f3.v 1 rfl
 have e10 : get a3 10 = (.int .i64 (0)) := f3.v 2 rfl
 clear f3
 show Code.wp _ _ _ a3 w3
 refine wp_block ?_
 refine wp_loop (fun a_ w_ => ∃ (k : Nat) (u : Value) (ts : List Tr) (τ : Nat → Foot), (k ≤ xs.length) ∧
      (ts.map er = flatF kind ((xs.take k).map er)) ∧
      St (Nw w) w 30 a_ w_ τ ∧
      get a_ 5 = u ∧
      get a_ 10 = (.int .i64 ((k : Int))) ∧
      get a_ 0 = (.int .i64 (kind)) ∧
      get a_ 4 = (.slice none 0 0) ∧
      get a_ 8 = v ∧
      get a_ 9 = (.int .i64 ((xs.length : Int))) ∧
      ownR TrE 25 (ts) (τ 5) u w_ ∧
      Fz (zTl (Gn none' w) ts) τ w_) (fun a_ _ => xs.length - (intOf (get a_ 10)).toNat) ?_ ?_
 · refine ⟨0, (.slice none 0 0), [], τ3, ?_, ?_, st3, e5, (e10.trans (int_eq (by omega))), e0, e4, e8, e9, ?_, ?_⟩
   · omega
   · simp [flatF]
   · exact ownR.nil _ _ _ _
   · exact Fz.tn _ _ _
 intro a4 w4 hI
 obtain ⟨k, u, ts, τ4, q0, q1, st4, e5, e10, e0, e4, e8, e9, r5, r6⟩ := hI
 have hw := wt_at (xs := xs) (k := k)
 have hrm := flat_roomw q1
 have hpk : k < xs.length → wtF (nth xs (k : Int)) ≤ 1000000 := fun h_ => by have h2_ := hw h_; omega
 have m10 := e10
 refine wp_seq ?_
 refine region_St (bf := [0]) (sp := [det _ 11 _]) [Ini.any _, Ini.any _, Ini.any _, Ini.any _, Ini.any _, io r5, iz r6] mixed st4 (by kernel_rfl) ⟨trivial, trivial, trivial, trivial, trivial, r5, r6, trivial⟩
  ⟨Ob.d fun c => r_lss rfl (c.p e10) (c.p e9), trivial⟩ ?_
 intro a5 w5 τ5 st5 f5
 obtain ⟨e0, e4, e5, e8, e9, e10, -⟩ := f5.ks [(0, _), (4, _), (5, _), (8, _), (9, _), (10, _)] ⟨e0, e4, e5, e8, e9, e10, trivial⟩
 have e11 : get a5 11 = (.bool (decide ((k : Int) < (xs.length : Int)))) := f5.v 0 rfl
 replace r5 := f5.io 5 rfl
 replace r6 := f5.iz 6 rfl
 clear f5
 show Code.wp _ _ _ a5 w5
 refine wp_seq ?_
 refine wp_cond_split (t := decide ((k : Int) < (xs.length : Int))) e11 (fun hc1 => ?_) (fun hc1 => ?_)
 · try simp only [decide_eq_true_eq] at hc1
   refine wp_skip ?_
   show Code.wp _ _ _ a5 w5
   refine wp_seq ?_
   refine wp_block ?_
   refine wp_seq ?_
   refine region_St (bf := [0, 1, 0, 7]) (sp := [det _ 12 _, det _ 13 _, box _ _ 0 7 [(.int .i64 (0)), (.string ((⟨#[]⟩ : ByteArray))), (.bool (false)), (.slice none 0 0), (.int .i64 (0)), (.int .i64 (0)), (.bool (false)), (.slice none 0 0)], box _ _ 0 7 [(.int .i64 ((nth xs ((k : Int))).k)), (.string ((nth xs ((k : Int))).ch)), (.bool ((nth xs ((k : Int))).ng)), (nth xs ((k : Int))).rv.v, (.int .i64 ((nth xs ((k : Int))).mn)), (.int .i64 ((nth xs ((k : Int))).mx)), (.bool ((nth xs ((k : Int))).lz)), (nth xs ((k : Int))).kv.v]]) [Ini.any _, Ini.any _, Ini.any _, Ini.any _, Ini.any _, io r5, iz r6] mixed st5 (by kernel_rfl) ⟨trivial, trivial, trivial, trivial, trivial, r5, r6, trivial⟩
    ⟨Ob.d fun c => r_indexAddr rfl Try.underlying23 Try.sizeOf25 (c.p e8) (hS.at st5.ext).sl.sl (c.p e10) (by omega) (by omega),
    Ob.d fun c => r_loadN (vs := [(.int .i64 ((nth xs ((k : Int))).k)), (.string ((nth xs ((k : Int))).ch)), (.bool ((nth xs ((k : Int))).ng)), (nth xs ((k : Int))).rv.v, (.int .i64 ((nth xs ((k : Int))).mn)), (.int .i64 ((nth xs ((k : Int))).mx)), (.bool ((nth xs ((k : Int))).lz)), (nth xs ((k : Int))).kv.v]) rfl Try.isAgg25 Try.sizeOf25 (c.n 0 rfl) rfl (fun _ _ hj => ((hS.at (st5.ext.trans c.J.ext)).sl).elem (nth_some (i := (k : Int)) (by omega) (by omega)) hj),
    Ob.alloc rfl rfl rfl rfl Try.zeroValue25 rfl,
    Ob.storeBox (off := 0) (v := (.agg #[(.int .i64 ((nth xs ((k : Int))).k)), (.string ((nth xs ((k : Int))).ch)), (.bool ((nth xs ((k : Int))).ng)), (nth xs ((k : Int))).rv.v, (.int .i64 ((nth xs ((k : Int))).mn)), (.int .i64 ((nth xs ((k : Int))).mx)), (.bool ((nth xs ((k : Int))).lz)), (nth xs ((k : Int))).kv.v])) rfl rfl rfl rfl Try.sizeOf25 (Nat.le_of_ble_eq_true rfl) (by simp [Value.cells, Value.oneCell', Sv.v]) rfl (fun _ _ _ _ c => ⟨c.rb 2 rfl, (c.rb 2 rfl).ptr, (c.n 1 rfl)⟩), trivial⟩ ?_
   intro a6 w6 τ6 st6 f6
   obtain ⟨b6x7, e7⟩ : ∃ b, get a6 7 = b := ⟨_, rfl⟩
   obtain ⟨e0, e4, e5, e8, e9, e10, e11, -⟩ := f6.ks [(0, _), (4, _), (5, _), (8, _), (9, _), (10, _), (11, _)] ⟨e0, e4, e5, e8, e9, e10, e11, trivial⟩
   have r0 : boxR 25 [(.int .i64 ((nth xs ((k : Int))).k)), (.string ((nth xs ((k : Int))).ch)), (.bool ((nth xs ((k : Int))).ng)), (nth xs ((k : Int))).rv.v, (.int .i64 ((nth xs ((k : Int))).mn)), (.int .i64 ((nth xs ((k : Int))).mx)), (.bool ((nth xs ((k : Int))).lz)), (nth xs ((k : Int))).kv.v] (τ6 0) b6x7 w6 := f6.rb 3 e7 rfl
   replace r5 := f6.io 5 rfl
   replace r6 := f6.iz 6 rfl
   clear f6
   show Code.wp _ _ _ a6 w6
   refine wp_seq ?_
   refine region_of_ops ?_
   refine ops_cut 2 (by kernel_rfl) ?_
   refine ops_St (bf := [0, 1]) (sp := [det _ 14 _, zdet _ 15 (fun b : Tr => b.v) (fun b : Tr => er b = er (nth xs ((k : Int)))) (fun b : Tr => zTr (Gn none' w) b)]) [ib r0, Ini.any _, Ini.any _, Ini.any _, Ini.any _, io r5, iz r6] st6 (by kernel_rfl) ⟨r0, trivial, trivial, trivial, trivial, r5, r6, trivial⟩
    ⟨Ob.d fun c => r_loadN (vs := [(.int .i64 ((nth xs ((k : Int))).k)), (.string ((nth xs ((k : Int))).ch)), (.bool ((nth xs ((k : Int))).ng)), (nth xs ((k : Int))).rv.v, (.int .i64 ((nth xs ((k : Int))).mn)), (.int .i64 ((nth xs ((k : Int))).mx)), (.bool ((nth xs ((k : Int))).lz)), (nth xs ((k : Int))).kv.v]) rfl Try.isAgg25 Try.sizeOf25 ((c.p e7).trans r0.ptr) rfl (fun _ _ hj => (c.ib 0 rfl).cell hj),
    Ob.zc (f := fun b : Tr => b.v) (Ψ := fun b : Tr => er b = er (nth xs ((k : Int)))) (Φ := fun b : Tr => zTr (Gn none' w) b) fun {_ a_ _ _} c => ⟨_, _, (e_call1 rfl rfl Try.call37 (c.n 0 rfl)), (clone_c (nth xs ((k : Int))) _ ((hS.at (st6.ext.trans c.J.ext)).el (by omega) (by omega)) (by omega)).mono (fun e w' ⟨t_, he_, hx_, ht_, hq_⟩ => ⟨t_, he_, hx_, hq_, c.tn st6 hx_ ht_⟩)⟩, trivial⟩ ?_
   intro a7 w7 τ7 st7 f7
   obtain ⟨e0, e4, e5, e7, e8, e9, e10, e11, -⟩ := f7.ks [(0, _), (4, _), (5, _), (7, _), (8, _), (9, _), (10, _), (11, _)] ⟨e0, e4, e5, e7, e8, e9, e10, e11, trivial⟩
   obtain ⟨t1_, e15, hqt1_, hz7⟩ := f7.zd 1 rfl
   have e15 : get a7 15 = (.agg #[(.int .i64 (t1_.k)), (.string (t1_.ch)), (.bool (t1_.ng)), t1_.rv.v, (.int .i64 (t1_.mn)), (.int .i64 (t1_.mx)), (.bool (t1_.lz)), t1_.kv.v]) := e15
   replace r0 := f7.ib 0 rfl
   replace r5 := f7.io 5 rfl
   replace r6 := f7.iz 6 rfl
   have r1 : Fz (zTr (Gn none' w) t1_) τ7 w7 := hz7
   clear f7
   refine only_mk ?_
   refine ops_St (bf := [0]) (sp := [box _ _ 0 7 [(.int .i64 (t1_.k)), (.string (t1_.ch)), (.bool (t1_.ng)), t1_.rv.v, (.int .i64 (t1_.mn)), (.int .i64 (t1_.mx)), (.bool (t1_.lz)), t1_.kv.v]]) [ib r0, iz r1, Ini.any _, Ini.any _, Ini.any _, io r5, iz r6] st7 (by kernel_rfl) ⟨r0, r1, trivial, trivial, trivial, r5, r6, trivial⟩
    ⟨Ob.storeBox (off := 0) (v := (.agg #[(.int .i64 (t1_.k)), (.string (t1_.ch)), (.bool (t1_.ng)), t1_.rv.v, (.int .i64 (t1_.mn)), (.int .i64 (t1_.mx)), (.bool (t1_.lz)), t1_.kv.v])) rfl rfl rfl rfl Try.sizeOf25 (Nat.le_of_ble_eq_true rfl) (by simp [Value.cells, Value.oneCell', Sv.v]) rfl (fun _ _ _ _ c => ⟨c.bp 0 rfl e7, c.ad ((c.p e7).trans r0.ptr) e7 rfl, (c.p e15)⟩), trivial⟩ ?_
   intro a8 w8 τ8 st8 f8
   obtain ⟨e0, e4, e5, e7, e8, e9, e10, e11, -⟩ := f8.ks [(0, _), (4, _), (5, _), (7, _), (8, _), (9, _), (10, _), (11, _)] ⟨e0, e4, e5, e7, e8, e9, e10, e11, trivial⟩
   replace r0 : boxR 25 [(.int .i64 (t1_.k)), (.string (t1_.ch)), (.bool (t1_.ng)), t1_.rv.v, (.int .i64 (t1_.mn)), (.int .i64 (t1_.mx)), (.bool (t1_.lz)), t1_.kv.v] (τ8 0) b6x7 w8 := f8.rb 0 e7 rfl
   replace r1 := f8.iz 1 rfl
   replace r5 := f8.io 5 rfl
   replace r6 := f8.iz 6 rfl
   clear f8
   have hek := er_kidl hqt1_
   have hew := (wtF_bound (nth xs (k : Int))).1
   show Code.wp _ _ _ a8 w8
   refine wp_seq ?_
   refine region_St (bf := [0, 1, 0, 7]) (sp := [det _ 16 _, det _ 17 _, det _ 18 _, det _ 19 _]) [ib r0, iz r1, Ini.any _, Ini.any _, Ini.any _, io r5, iz r6] mixed st8 (by kernel_rfl) ⟨r0, r1, trivial, trivial, trivial, r5, r6, trivial⟩
    ⟨Ob.d fun c => r_fieldAddr rfl Try.underlying25 rfl rfl Try.sizeOf3 ((c.p e7).trans r0.ptr),
    Ob.d fun c => r_load1 rfl Try.isAgg3 (c.n 0 rfl) ((c.ib 0 rfl).cell (j := 0) rfl),
    Ob.d fun c => r_move rfl (c.p e0),
    Ob.d fun c => r_eql rfl (c.n 1 rfl) (c.n 2 rfl), trivial⟩ ?_
   intro a9 w9 τ9 st9 f9
   obtain ⟨e0, e4, e5, e7, e8, e9, e10, e11, -⟩ := f9.ks [(0, _), (4, _), (5, _), (7, _), (8, _), (9, _), (10, _), (11, _)] ⟨e0, e4, e5, e7, e8, e9, e10, e11, trivial⟩
   have e19 : get a9 19 = (.bool (decide (t1_.k = kind))) := f9.v 3 rfl
   replace r0 := f9.ib 0 rfl
   replace r1 := f9.iz 1 rfl
   replace r5 := f9.io 5 rfl
   replace r6 := f9.iz 6 rfl
   clear f9
   show Code.wp _ _ _ a9 w9
   refine wp_cond_split (t := decide (t1_.k = kind)) e19 (fun hc2 => ?_) (fun hc2 => ?_)
   · try simp only [decide_eq_true_eq] at hc2
     refine region_St (bf := [0, 0, 2, 7, 15]) (sp := [det _ 20 _, det _ 21 _, det _ 22 _, own _ _ _ 5 23 _, own _ _ _ 5 5 _]) [ib r0, iz r1, Ini.any _, Ini.any _, Ini.any _, io r5, iz r6] mixed st9 (by kernel_rfl) ⟨r0, r1, trivial, trivial, trivial, r5, r6, trivial⟩
      ⟨Ob.d fun c => r_move rfl (c.p e5),
      Ob.d fun c => r_fieldAddr rfl Try.underlying25 rfl rfl Try.sizeOf23 ((c.p e7).trans r0.ptr),
      Ob.d fun c => r_load1 rfl Try.isAgg23 (c.n 1 rfl) ((c.ib 0 rfl).cell (j := 7) rfl),
      Ob.append (t0 := 5) rfl rfl rfl rfl Try.underlying23 (i := Try.t25) rfl rfl rfl rfl (by simp only [maxLen]; (try simp); omega) (by show _ * 104 ≤ _; (try simp); omega) (fun _ _ _ _ c => ⟨c.ip 5 rfl e5, c.sm (c.n 0 rfl) e5, ⟨_, (c.n 2 rfl), (zs (c.iz 1 rfl)).tl.sl⟩⟩),
      Ob.moveT (t0 := 23) rfl rfl rfl rfl rfl (.inr rfl) (fun _ _ _ _ c => ⟨c.ro 3 rfl, rfl⟩), trivial⟩ ?_
     intro a10 w10 τ10 st10 f10
     obtain ⟨b10x5, e5⟩ : ∃ b, get a10 5 = b := ⟨_, rfl⟩
     obtain ⟨e0, e4, e7, e8, e9, e10, e11, e19, -⟩ := f10.ks [(0, _), (4, _), (7, _), (8, _), (9, _), (10, _), (11, _), (19, _)] ⟨e0, e4, e7, e8, e9, e10, e11, e19, trivial⟩
     replace r0 := f10.ib 0 rfl
     replace r1 := f10.iz 1 rfl
     replace r5 : ownR TrE 25 (ts ++ t1_.kids) (τ10 5) b10x5 w10 := f10.ro 4 e5 rfl
     replace r6 := f10.iz 6 rfl
     clear f10
     show _
     show Code.wp _ _ _ a10 w10
     refine region_St (bf := [0, 1]) (sp := [det _ 28 _, det _ 10 _]) [ib r0, iz r1, Ini.any _, Ini.any _, Ini.any _, io r5, iz r6] mixed st10 (by kernel_rfl) ⟨r0, r1, trivial, trivial, trivial, r5, r6, trivial⟩
      ⟨Ob.d fun c => r_add rfl (c.p e10) rfl (by omega),
      Ob.d fun c => r_move rfl (c.n 0 rfl), trivial⟩ ?_
     intro a11 w11 τ11 st11 f11
     obtain ⟨e0, e4, e5, e7, e8, e9, e11, e19, -⟩ := f11.ks [(0, _), (4, _), (5, _), (7, _), (8, _), (9, _), (11, _), (19, _)] ⟨e0, e4, e5, e7, e8, e9, e11, e19, trivial⟩
     have e10 : get a11 10 = (.int .i64 ((k : Int) + 1)) := f11.v 1 rfl
     replace r0 := f11.ib 0 rfl
     replace r1 := f11.iz 1 rfl
     replace r5 := f11.io 5 rfl
     replace r6 := f11.iz 6 rfl
     clear f11
     refine ⟨⟨k + 1, b10x5, ts ++ t1_.kids, τ11, ?_, ?_, st11, e5, (e10.trans (int_eq (by omega))), e0, e4, e8, e9, ?_, ?_⟩, ?_⟩
     · omega
     · first | exact flat_hit (by omega) q1 (by assumption) (by assumption) rfl | exact flat_miss (by omega) q1 (by assumption) (by assumption)
     · exact r5.cast (by rfl)
     · exact Fz.app r6 r1.kl
     · simp only [m10, e10, intOf]; omega
   try simp only [decide_eq_false_iff_not] at hc2
   refine region_St (bf := [0, 0, 2, 7, 15]) (sp := [det _ 24 _, det _ 25 _, own TrE 25 _ 2 26 ([t1_]), own _ _ _ 5 27 _, own _ _ _ 5 5 _]) [ib r0, iz r1, Ini.any _, Ini.any _, Ini.any _, io r5, iz r6] mixed st9 (by kernel_rfl) ⟨r0, r1, trivial, trivial, trivial, r5, r6, trivial⟩
    ⟨Ob.d fun c => r_move rfl (c.p e5),
    Ob.d fun c => r_loadN (vs := [(.int .i64 (t1_.k)), (.string (t1_.ch)), (.bool (t1_.ng)), t1_.rv.v, (.int .i64 (t1_.mn)), (.int .i64 (t1_.mx)), (.bool (t1_.lz)), t1_.kv.v]) rfl Try.isAgg25 Try.sizeOf25 ((c.p e7).trans r0.ptr) rfl (fun _ _ hj => (c.ib 0 rfl).cell hj),
    Ob.buildSlice (cells := #[(.int .i64 (t1_.k)), (.string (t1_.ch)), (.bool (t1_.ng)), t1_.rv.v, (.int .i64 (t1_.mn)), (.int .i64 (t1_.mx)), (.bool (t1_.lz)), t1_.kv.v]) rfl rfl rfl rfl Try.underlying23 Try.sizeOf25 Try.zeroValue25 rfl (by decide) (by decide) (fun _ _ _ _ c => fill1 (c.n 1 rfl) (by kernel_rfl)) rfl,
    Ob.append (t0 := 5) rfl rfl rfl rfl Try.underlying23 (i := Try.t25) rfl rfl rfl rfl (by simp only [maxLen]; (try simp); omega) (by show _ * 104 ≤ _; (try simp); omega) (fun _ _ _ _ c => ⟨c.ip 5 rfl e5, c.sm (c.n 0 rfl) e5, ⟨_, rfl, (c.ro 2 rfl).1.sl⟩⟩),
    Ob.moveT (t0 := 27) rfl rfl rfl rfl rfl (.inr rfl) (fun _ _ _ _ c => ⟨c.ro 3 rfl, rfl⟩), trivial⟩ ?_
   intro a12 w12 τ12 st12 f12
   obtain ⟨b12x26, e26⟩ : ∃ b, get a12 26 = b := ⟨_, rfl⟩
   obtain ⟨b12x5, e5⟩ : ∃ b, get a12 5 = b := ⟨_, rfl⟩
   obtain ⟨e0, e4, e7, e8, e9, e10, e11, e19, -⟩ := f12.ks [(0, _), (4, _), (7, _), (8, _), (9, _), (10, _), (11, _), (19, _)] ⟨e0, e4, e7, e8, e9, e10, e11, e19, trivial⟩
   replace r0 := f12.ib 0 rfl
   replace r1 := f12.iz 1 rfl
   have r2 : ownR TrE 25 ([t1_]) (τ12 2) b12x26 w12 := f12.ro 2 e26 rfl
   replace r5 : ownR TrE 25 (ts ++ ([t1_])) (τ12 5) b12x5 w12 := f12.ro 4 e5 rfl
   replace r6 := f12.iz 6 rfl
   clear f12
   show _
   show Code.wp _ _ _ a12 w12
   refine region_St (bf := [0, 1]) (sp := [det _ 28 _, det _ 10 _]) [ib r0, iz r1, io r2, Ini.any _, Ini.any _, io r5, iz r6] mixed st12 (by kernel_rfl) ⟨r0, r1, r2, trivial, trivial, r5, r6, trivial⟩
    ⟨Ob.d fun c => r_add rfl (c.p e10) rfl (by omega),
    Ob.d fun c => r_move rfl (c.n 0 rfl), trivial⟩ ?_
   intro a13 w13 τ13 st13 f13
   obtain ⟨e0, e4, e5, e7, e8, e9, e11, e19, -⟩ := f13.ks [(0, _), (4, _), (5, _), (7, _), (8, _), (9, _), (11, _), (19, _)] ⟨e0, e4, e5, e7, e8, e9, e11, e19, trivial⟩
   have e10 : get a13 10 = (.int .i64 ((k : Int) + 1)) := f13.v 1 rfl
   replace r0 := f13.ib 0 rfl
   replace r1 := f13.iz 1 rfl
   replace r2 := f13.io 2 rfl
   replace r5 := f13.io 5 rfl
   replace r6 := f13.iz 6 rfl
   clear f13
   refine ⟨⟨k + 1, b12x5, ts ++ ([t1_]), τ13, ?_, ?_, st13, e5, (e10.trans (int_eq (by omega))), e0, e4, e8, e9, ?_, ?_⟩, ?_⟩
   · omega
   · first | exact flat_hit (by omega) q1 (by assumption) (by assumption) rfl | exact flat_miss (by omega) q1 (by assumption) (by assumption)
   · exact r5.cast (by rfl)
   · exact Fz.snoc r6 r1
   · simp only [m10, e10, intOf]; omega
 try simp only [decide_eq_false_iff_not, Int.not_lt] at hc1
 refine wp_exit ?_
 repeat (with_reducible refine then_exit ?_)
 refine exit_here ?_
 show Code.wp _ _ _ a5 w5
 refine wp_seq ?_
 refine region_St (bf := [0, 1]) (sp := [det _ 29 _, det _ 4 _]) [Ini.any _, Ini.any _, Ini.any _, Ini.any _, Ini.any _, io r5, iz r6] mixed st5 (by kernel_rfl) ⟨trivial, trivial, trivial, trivial, trivial, r5, r6, trivial⟩
  ⟨Ob.d fun c => r_move rfl (c.p e5),
  Ob.d fun c => r_assign rfl (c.n 0 rfl), trivial⟩ ?_
 intro a14 w14 τ14 st14 f14
 have e4 : get a14 4 = u := f14.v 1 rfl
 replace r5 := f14.io 5 rfl
 replace r6 := f14.iz 6 rfl
 clear f14
 show Code.wp _ _ _ a14 w14
 refine wp_ret ?_
 repeat (first | with_reducible refine then_ret ?_ | with_reducible refine block_ret ?_)
 refine ret1 (fn := Try.f31) rfl st14.defers e4 ?_
 rw [List.take_of_length_le (by omega)] at q1
 exact ⟨_, ts, rfl, st14.ext0, ⟨r5.1, fun g_ h_ => (st14.bnd _ g_ (r5.2 g_ h_)).1⟩, r6.outo (i := 5) r5.2, q1⟩

set_option maxRecDepth 100000 in
theorem seq_c (v : Value) (xs : List Tr) (w : World) (hS : TlS w v xs) (hP : sumL (xs.map wtF) ≤ 1000000) : Calls Try.prog 13 #[v] w (fun e w' => ∃ t' : Tr, e = .returned t'.v ∧ Ext none' w w' ∧ TrT ((Gn none' w)) w' t' ∧ er t' = seqF (xs.map er)) := by
 refine enter (n := 14) Try.func13 rfl rfl (Nat.le_of_ble_eq_true rfl) ?_
 intro a0 τ0 ha st0
 have e0 : get a0 0 = v := ha 0 _ rfl
 clear ha
 have hle := hS.sl.le
 refine wp_seq ?_
 refine region_St (bf := [0]) (sp := [box _ _ 0 2 [(.int .i64 (0)), (.string ((⟨#[]⟩ : ByteArray))), (.bool (false)), (.slice none 0 0), (.int .i64 (0)), (.int .i64 (0)), (.bool (false)), (.slice none 0 0)]]) [] mixed st0 (by kernel_rfl) trivial
  ⟨Ob.alloc rfl rfl rfl rfl Try.zeroValue25 rfl, trivial⟩ ?_
 intro a1 w1 τ1 st1 f1
 obtain ⟨b1x2, e2⟩ : ∃ b, get a1 2 = b := ⟨_, rfl⟩
 obtain ⟨e0, -⟩ := f1.ks [(0, _)] ⟨e0, trivial⟩
 have r0 : boxR 25 [(.int .i64 (0)), (.string ((⟨#[]⟩ : ByteArray))), (.bool (false)), (.slice none 0 0), (.int .i64 (0)), (.int .i64 (0)), (.bool (false)), (.slice none 0 0)] (τ1 0) b1x2 w1 := f1.rb 0 e2 rfl
 clear f1
 show Code.wp _ _ _ a1 w1
 refine wp_seq ?_
 refine region_of_ops ?_
 refine ops_cut 2 (by kernel_rfl) ?_
 refine ops_St (bf := [0, 1]) (sp := [det _ 4 _, zown TrE 25 _ 1 5 (fun b : List Tr => b) (fun b : List Tr => b.map er = flatF 0 (xs.map er)) (fun b : List Tr => zTl (Gn none' w) b)]) [ib r0] st1 (by kernel_rfl) ⟨r0, trivial⟩
  ⟨Ob.d fun c => r_move rfl (c.p e0),
  Ob.zo (xs := fun b : List Tr => b) (Ψ := fun b : List Tr => b.map er = flatF 0 (xs.map er)) (Φ := fun b : List Tr => zTl (Gn none' w) b) fun {_ a_ _ _} c => ⟨_, _, (e_call2 rfl rfl Try.call31 rfl (c.n 0 rfl)), (flat_c 0 v xs _ (hS.at (st1.ext.trans c.J.ext)) (by omega)).mono (fun e w' ⟨v_, ts_, he_, hx_, ho_, ht_, hq_⟩ => ⟨v_, ts_, he_, hx_, ho_, hq_, c.tno (tag := 1) st1 hx_ ho_ ht_⟩)⟩, trivial⟩ ?_
 intro a2 w2 τ2 st2 f2
 obtain ⟨b2x5, e5⟩ : ∃ b, get a2 5 = b := ⟨_, rfl⟩
 obtain ⟨e2, -⟩ := f2.ks [(2, _)] ⟨e2, trivial⟩
 obtain ⟨ts1_, hro2, hqts1_, hz2⟩ := f2.zo 1 e5 rfl
 replace r0 := f2.ib 0 rfl
 have r1 : ownR TrE 25 (ts1_) (τ2 1) b2x5 w2 := hro2
 have r2 : Fz (zTl (Gn none' w) ts1_) τ2 w2 := hz2
 clear f2
 refine only_mk ?_
 refine ops_St (bf := [0]) (sp := [det _ 3 _]) [ib r0, io r1, iz r2] st2 (by kernel_rfl) ⟨r0, r1, r2, trivial⟩
  ⟨Ob.d fun c => r_assign rfl (c.p e5), trivial⟩ ?_
 intro a3 w3 τ3 st3 f3
 obtain ⟨e2, -⟩ := f3.ks [(2, _)] ⟨e2, trivial⟩
 have e3 : get a3 3 = b2x5 := f3.v 0 rfl
 replace r0 := f3.ib 0 rfl
 replace r1 := f3.io 1 rfl
 replace r2 := f3.iz 2 rfl
 clear f3
 obtain ⟨kv0, rfl⟩ := r1.isSl.sv
 show Code.wp _ _ _ a3 w3
 refine wp_seq ?_
 refine wp_seq ?_
 refine region_St (bf := [0, 1, 3]) (sp := [det _ 6 _, det _ 7 _, det _ 8 _]) [ib r0, io r1, iz r2] mixed st3 (by kernel_rfl) ⟨r0, r1, r2, trivial⟩
  ⟨Ob.d fun c => r_move rfl (c.p e3),
  Ob.d fun c => r_len rfl Try.underlying23 (c.n 0 rfl) r1.isSl,
  Ob.d fun c => r_eql rfl (c.n 1 rfl) rfl, trivial⟩ ?_
 intro a4 w4 τ4 st4 f4
 obtain ⟨e2, e3, -⟩ := f4.ks [(2, _), (3, _)] ⟨e2, e3, trivial⟩
 have e8 : get a4 8 = (.bool (decide ((ts1_.length : Int) = 1))) := f4.v 2 rfl
 replace r0 := f4.ib 0 rfl
 replace r1 := f4.io 1 rfl
 replace r2 := f4.iz 2 rfl
 clear f4
 show Code.wp _ _ _ a4 w4
 refine wp_cond_split (t := decide ((ts1_.length : Int) = 1)) e8 (fun hc1 => ?_) (fun hc1 => ?_)
 · try simp only [decide_eq_true_eq] at hc1
   refine wp_seq ?_
   refine region_St (bf := [0, 1, 3, 7]) (sp := [det _ 9 _, det _ 10 _, det _ 11 _, box _ _ 0 2 [(.int .i64 ((nth ts1_ (0)).k)), (.string ((nth ts1_ (0)).ch)), (.bool ((nth ts1_ (0)).ng)), (nth ts1_ (0)).rv.v, (.int .i64 ((nth ts1_ (0)).mn)), (.int .i64 ((nth ts1_ (0)).mx)), (.bool ((nth ts1_ (0)).lz)), (nth ts1_ (0)).kv.v]]) [ib r0, io r1, iz r2] mixed st4 (by kernel_rfl) ⟨r0, r1, r2, trivial⟩
    ⟨Ob.d fun c => r_move rfl (c.p e3),
    Ob.d fun c => r_indexAddr rfl Try.underlying23 Try.sizeOf25 (c.n 0 rfl) r1.isSl rfl (by omega) (by omega),
    Ob.d fun c => r_loadN (vs := [(.int .i64 ((nth ts1_ (0)).k)), (.string ((nth ts1_ (0)).ch)), (.bool ((nth ts1_ (0)).ng)), (nth ts1_ (0)).rv.v, (.int .i64 ((nth ts1_ (0)).mn)), (.int .i64 ((nth ts1_ (0)).mx)), (.bool ((nth ts1_ (0)).lz)), (nth ts1_ (0)).kv.v]) rfl Try.isAgg25 Try.sizeOf25 (c.n 1 rfl) rfl (fun _ _ hj => ((c.io 1 rfl).1.sl).elem (nth_some (i := 0) (by omega) (by omega)) hj),
    Ob.storeBox (off := 0) (v := (.agg #[(.int .i64 ((nth ts1_ (0)).k)), (.string ((nth ts1_ (0)).ch)), (.bool ((nth ts1_ (0)).ng)), (nth ts1_ (0)).rv.v, (.int .i64 ((nth ts1_ (0)).mn)), (.int .i64 ((nth ts1_ (0)).mx)), (.bool ((nth ts1_ (0)).lz)), (nth ts1_ (0)).kv.v])) rfl rfl rfl rfl Try.sizeOf25 (Nat.le_of_ble_eq_true rfl) (by simp [Value.cells, Value.oneCell', Sv.v]) rfl (fun _ _ _ _ c => ⟨c.bp 0 rfl e2, c.ad ((c.p e2).trans r0.ptr) e2 rfl, (c.n 2 rfl)⟩), trivial⟩ ?_
   intro a5 w5 τ5 st5 f5
   obtain ⟨e2, e3, -⟩ := f5.ks [(2, _), (3, _)] ⟨e2, e3, trivial⟩
   replace r0 : boxR 25 [(.int .i64 ((nth ts1_ (0)).k)), (.string ((nth ts1_ (0)).ch)), (.bool ((nth ts1_ (0)).ng)), (nth ts1_ (0)).rv.v, (.int .i64 ((nth ts1_ (0)).mn)), (.int .i64 ((nth ts1_ (0)).mx)), (.bool ((nth ts1_ (0)).lz)), (nth ts1_ (0)).kv.v] (τ5 0) b1x2 w5 := f5.rb 3 e2 rfl
   replace r1 := f5.io 1 rfl
   replace r2 := f5.iz 2 rfl
   clear f5
   show Code.wp _ _ _ a5 w5
   refine wp_ret ?_
   repeat (first | with_reducible refine then_ret ?_ | with_reducible refine block_ret ?_)
   refine ret1c (fn := Try.f13) rfl st5.defers e2 r0 Try.isAgg25 Try.sizeOf25 rfl ?_
   exact ⟨_, rfl, st5.ext0, (r2.e (by omega) (by omega)).out, seq_one hqts1_ (by omega)⟩
 try simp only [decide_eq_false_iff_not] at hc1
 refine wp_skip ?_
 show Code.wp _ _ _ a4 w4
 refine wp_seq ?_
 refine region_St (bf := [0, 1, 3]) (sp := [det _ 12 _, det _ 13 _, box _ _ 0 2 [(.int .i64 (0)), (.string ((⟨#[]⟩ : ByteArray))), (.bool (false)), (.slice none 0 0), (.int .i64 (0)), (.int .i64 (0)), (.bool (false)), kv0.v]]) [ib r0, io r1, iz r2] mixed st4 (by kernel_rfl) ⟨r0, r1, r2, trivial⟩
  ⟨Ob.d fun c => r_move rfl (c.p e3),
  Ob.d fun c => r_build (cells := #[(.int .i64 (0)), (.string ((⟨#[]⟩ : ByteArray))), (.bool (false)), (.slice none 0 0), (.int .i64 (0)), (.int .i64 (0)), (.bool (false)), kv0.v]) rfl Try.underlying25 Try.zeroValue25 (pl := #[(0, 1), (1, 1), (2, 1), (3, 1), (4, 1), (5, 1), (6, 1), (7, 1)]) (fun w_ => by simp [Try.sizeOf22, Try.sizeOf23, Try.sizeOf3, Try.sizeOf4, Try.sizeOf9]) (fill2 rfl (c.n 0 rfl) rfl),
  Ob.storeBox (off := 0) (v := (.agg #[(.int .i64 (0)), (.string ((⟨#[]⟩ : ByteArray))), (.bool (false)), (.slice none 0 0), (.int .i64 (0)), (.int .i64 (0)), (.bool (false)), kv0.v])) rfl rfl rfl rfl Try.sizeOf25 (Nat.le_of_ble_eq_true rfl) (by simp [Value.cells, Value.oneCell', Sv.v]) rfl (fun _ _ _ _ c => ⟨c.bp 0 rfl e2, c.ad ((c.p e2).trans r0.ptr) e2 rfl, (c.n 1 rfl)⟩), trivial⟩ ?_
 intro a6 w6 τ6 st6 f6
 obtain ⟨e2, -⟩ := f6.ks [(2, _)] ⟨e2, trivial⟩
 replace r0 : boxR 25 [(.int .i64 (0)), (.string ((⟨#[]⟩ : ByteArray))), (.bool (false)), (.slice none 0 0), (.int .i64 (0)), (.int .i64 (0)), (.bool (false)), kv0.v] (τ6 0) b1x2 w6 := f6.rb 2 e2 rfl
 replace r1 := f6.io 1 rfl
 replace r2 := f6.iz 2 rfl
 clear f6
 show Code.wp _ _ _ a6 w6
 refine wp_ret ?_
 repeat (first | with_reducible refine then_ret ?_ | with_reducible refine block_ret ?_)
 refine ret1c (fn := Try.f13) rfl st6.defers e2 r0 Try.isAgg25 Try.sizeOf25 rfl ?_
 exact ⟨⟨0, ⟨#[]⟩, false, Sv.nil, [], 0, 0, false, kv0, ts1_⟩, rfl, st6.ext0, mk_out r1 (fun g h => .inr (st6.bnd _ _ h).1) r2.outs, by rw [er_mk]; exact seq_many hqts1_ (by omega)⟩

set_option maxRecDepth 100000 in
theorem alt_c (v : Value) (xs : List Tr) (w : World) (hS : TlS w v xs) (hP : sumL (xs.map wtF) ≤ 1000000) : Calls Try.prog 15 #[v] w (fun e w' => ∃ t' : Tr, e = .returned t'.v ∧ Ext none' w w' ∧ TrT ((Gn none' w)) w' t' ∧ er t' = altF (xs.map er)) := by
 refine enter (n := 18) Try.func15 rfl rfl (Nat.le_of_ble_eq_true rfl) ?_
 intro a0 τ0 ha st0
 have e0 : get a0 0 = v := ha 0 _ rfl
 clear ha
 have hle := hS.sl.le
 refine wp_seq ?_
 refine region_St (bf := [0]) (sp := [box _ _ 0 2 [(.int .i64 (0)), (.string ((⟨#[]⟩ : ByteArray))), (.bool (false)), (.slice none 0 0), (.int .i64 (0)), (.int .i64 (0)), (.bool (false)), (.slice none 0 0)]]) [] mixed st0 (by kernel_rfl) trivial
  ⟨Ob.alloc rfl rfl rfl rfl Try.zeroValue25 rfl, trivial⟩ ?_
 intro a1 w1 τ1 st1 f1
 obtain ⟨b1x2, e2⟩ : ∃ b, get a1 2 = b := ⟨_, rfl⟩
 obtain ⟨e0, -⟩ := f1.ks [(0, _)] ⟨e0, trivial⟩
 have r0 : boxR 25 [(.int .i64 (0)), (.string ((⟨#[]⟩ : ByteArray))), (.bool (false)), (.slice none 0 0), (.int .i64 (0)), (.int .i64 (0)), (.bool (false)), (.slice none 0 0)] (τ1 0) b1x2 w1 := f1.rb 0 e2 rfl
 clear f1
 show Code.wp _ _ _ a1 w1
 refine wp_seq ?_
 refine region_of_ops ?_
 refine ops_cut 2 (by kernel_rfl) ?_
 refine ops_St (bf := [0, 1]) (sp := [det _ 4 _, zown TrE 25 _ 1 5 (fun b : List Tr => b) (fun b : List Tr => b.map er = flatF 1 (xs.map er)) (fun b : List Tr => zTl (Gn none' w) b)]) [ib r0] st1 (by kernel_rfl) ⟨r0, trivial⟩
  ⟨Ob.d fun c => r_move rfl (c.p e0),
  Ob.zo (xs := fun b : List Tr => b) (Ψ := fun b : List Tr => b.map er = flatF 1 (xs.map er)) (Φ := fun b : List Tr => zTl (Gn none' w) b) fun {_ a_ _ _} c => ⟨_, _, (e_call2 rfl rfl Try.call31 rfl (c.n 0 rfl)), (flat_c 1 v xs _ (hS.at (st1.ext.trans c.J.ext)) (by omega)).mono (fun e w' ⟨v_, ts_, he_, hx_, ho_, ht_, hq_⟩ => ⟨v_, ts_, he_, hx_, ho_, hq_, c.tno (tag := 1) st1 hx_ ho_ ht_⟩)⟩, trivial⟩ ?_
 intro a2 w2 τ2 st2 f2
 obtain ⟨b2x5, e5⟩ : ∃ b, get a2 5 = b := ⟨_, rfl⟩
 obtain ⟨e2, -⟩ := f2.ks [(2, _)] ⟨e2, trivial⟩
 obtain ⟨ts1_, hro2, hqts1_, hz2⟩ := f2.zo 1 e5 rfl
 replace r0 := f2.ib 0 rfl
 have r1 : ownR TrE 25 (ts1_) (τ2 1) b2x5 w2 := hro2
 have r2 : Fz (zTl (Gn none' w) ts1_) τ2 w2 := hz2
 clear f2
 refine only_mk ?_
 refine ops_St (bf := [0]) (sp := [det _ 3 _]) [ib r0, io r1, iz r2] st2 (by kernel_rfl) ⟨r0, r1, r2, trivial⟩
  ⟨Ob.d fun c => r_assign rfl (c.p e5), trivial⟩ ?_
 intro a3 w3 τ3 st3 f3
 obtain ⟨e2, -⟩ := f3.ks [(2, _)] ⟨e2, trivial⟩
 have e3 : get a3 3 = b2x5 := f3.v 0 rfl
 replace r0 := f3.ib 0 rfl
 replace r1 := f3.io 1 rfl
 replace r2 := f3.iz 2 rfl
 clear f3
 obtain ⟨kv0, rfl⟩ := r1.isSl.sv
 show Code.wp _ _ _ a3 w3
 refine wp_seq ?_
 refine wp_seq ?_
 refine region_St (bf := [0, 1]) (sp := [det _ 6 _, det _ 7 _]) [ib r0, io r1, iz r2] mixed st3 (by kernel_rfl) ⟨r0, r1, r2, trivial⟩
  ⟨Ob.d fun c => r_move rfl (c.p e3),
  Ob.d fun c => r_len rfl Try.underlying23 (c.n 0 rfl) r1.isSl, trivial⟩ ?_
 intro a4 w4 τ4 st4 f4
 obtain ⟨e2, e3, -⟩ := f4.ks [(2, _), (3, _)] ⟨e2, e3, trivial⟩
 have e7 : get a4 7 = (.int .i64 ((ts1_.length : Int))) := f4.v 1 rfl
 replace r0 := f4.ib 0 rfl
 replace r1 := f4.io 1 rfl
 replace r2 := f4.iz 2 rfl
 clear f4
 show Code.wp _ _ _ a4 w4
 refine wp_block ?_
 refine wp_seq ?_
 refine region_St (bf := [0, 1]) (sp := [det _ 9 _, det _ 8 _]) [ib r0, io r1, iz r2] mixed st4 (by kernel_rfl) ⟨r0, r1, r2, trivial⟩
  ⟨Ob.d fun c => r_eql rfl (c.p e7) rfl,
  Ob.d fun c => r_assign rfl (c.n 0 rfl), trivial⟩ ?_
 intro a5 w5 τ5 st5 f5
 obtain ⟨e2, e3, e7, -⟩ := f5.ks [(2, _), (3, _), (7, _)] ⟨e2, e3, e7, trivial⟩
 have e8 : get a5 8 = (.bool (decide ((ts1_.length : Int) = 0))) := f5.v 1 rfl
 replace r0 := f5.ib 0 rfl
 replace r1 := f5.io 1 rfl
 replace r2 := f5.iz 2 rfl
 clear f5
 show Code.wp _ _ _ a5 w5
 refine wp_cond_split (t := decide ((ts1_.length : Int) = 0)) e8 (fun hc1 => ?_) (fun hc1 => ?_)
 · try simp only [decide_eq_true_eq] at hc1
   refine wp_seq ?_
   refine region_St (bf := [0, 1]) (sp := [det _ 10 _, box _ _ 0 2 [(.int .i64 (0)), (.string ((⟨#[]⟩ : ByteArray))), (.bool (false)), (.slice none 0 0), (.int .i64 (0)), (.int .i64 (0)), (.bool (false)), (.slice none 0 0)]]) [ib r0, io r1, iz r2] mixed st5 (by kernel_rfl) ⟨r0, r1, r2, trivial⟩
    ⟨Ob.d fun c => r_build (cells := #[(.int .i64 (0)), (.string ((⟨#[]⟩ : ByteArray))), (.bool (false)), (.slice none 0 0), (.int .i64 (0)), (.int .i64 (0)), (.bool (false)), (.slice none 0 0)]) rfl Try.underlying25 Try.zeroValue25 (pl := #[(0, 1), (1, 1), (2, 1), (3, 1), (4, 1), (5, 1), (6, 1), (7, 1)]) (fun w_ => by simp [Try.sizeOf22, Try.sizeOf23, Try.sizeOf3, Try.sizeOf4, Try.sizeOf9]) (by simp only [List.map_toArray, List.map_nil]; rfl),
    Ob.storeBox (off := 0) (v := (.agg #[(.int .i64 (0)), (.string ((⟨#[]⟩ : ByteArray))), (.bool (false)), (.slice none 0 0), (.int .i64 (0)), (.int .i64 (0)), (.bool (false)), (.slice none 0 0)])) rfl rfl rfl rfl Try.sizeOf25 (Nat.le_of_ble_eq_true rfl) (by simp [Value.cells, Value.oneCell', Sv.v]) rfl (fun _ _ _ _ c => ⟨c.bp 0 rfl e2, c.ad ((c.p e2).trans r0.ptr) e2 rfl, (c.n 0 rfl)⟩), trivial⟩ ?_
   intro a6 w6 τ6 st6 f6
   obtain ⟨e2, e3, e7, -⟩ := f6.ks [(2, _), (3, _), (7, _)] ⟨e2, e3, e7, trivial⟩
   replace r0 : boxR 25 [(.int .i64 (0)), (.string ((⟨#[]⟩ : ByteArray))), (.bool (false)), (.slice none 0 0), (.int .i64 (0)), (.int .i64 (0)), (.bool (false)), (.slice none 0 0)] (τ6 0) b1x2 w6 := f6.rb 1 e2 rfl
   replace r1 := f6.io 1 rfl
   replace r2 := f6.iz 2 rfl
   clear f6
   show Code.wp _ _ _ a6 w6
   refine wp_ret ?_
   repeat (first | with_reducible refine then_ret ?_ | with_reducible refine block_ret ?_)
   refine ret1c (fn := Try.f15) rfl st6.defers e2 r0 Try.isAgg25 Try.sizeOf25 rfl ?_
   exact ⟨mkT 0 [], rfl, st6.ext0, leafTr _ _ _ _ _ _ _ _, alt_none hqts1_ (by omega)⟩
 try simp only [decide_eq_false_iff_not] at hc1
 refine wp_seq ?_
 refine region_St (bf := [0, 1]) (sp := [det _ 12 _, det _ 11 _]) [ib r0, io r1, iz r2] mixed st5 (by kernel_rfl) ⟨r0, r1, r2, trivial⟩
  ⟨Ob.d fun c => r_eql rfl (c.p e7) rfl,
  Ob.d fun c => r_assign rfl (c.n 0 rfl), trivial⟩ ?_
 intro a7 w7 τ7 st7 f7
 obtain ⟨e2, e3, -⟩ := f7.ks [(2, _), (3, _)] ⟨e2, e3, trivial⟩
 have e11 : get a7 11 = (.bool (decide ((ts1_.length : Int) = 1))) := f7.v 1 rfl
 replace r0 := f7.ib 0 rfl
 replace r1 := f7.io 1 rfl
 replace r2 := f7.iz 2 rfl
 clear f7
 show Code.wp _ _ _ a7 w7
 refine wp_cond_split (t := decide ((ts1_.length : Int) = 1)) e11 (fun hc2 => ?_) (fun hc2 => ?_)
 · try simp only [decide_eq_true_eq] at hc2
   refine wp_seq ?_
   refine region_St (bf := [0, 1, 3, 7]) (sp := [det _ 13 _, det _ 14 _, det _ 15 _, box _ _ 0 2 [(.int .i64 ((nth ts1_ (0)).k)), (.string ((nth ts1_ (0)).ch)), (.bool ((nth ts1_ (0)).ng)), (nth ts1_ (0)).rv.v, (.int .i64 ((nth ts1_ (0)).mn)), (.int .i64 ((nth ts1_ (0)).mx)), (.bool ((nth ts1_ (0)).lz)), (nth ts1_ (0)).kv.v]]) [ib r0, io r1, iz r2] mixed st7 (by kernel_rfl) ⟨r0, r1, r2, trivial⟩
    ⟨Ob.d fun c => r_move rfl (c.p e3),
    Ob.d fun c => r_indexAddr rfl Try.underlying23 Try.sizeOf25 (c.n 0 rfl) r1.isSl rfl (by omega) (by omega),
    Ob.d fun c => r_loadN (vs := [(.int .i64 ((nth ts1_ (0)).k)), (.string ((nth ts1_ (0)).ch)), (.bool ((nth ts1_ (0)).ng)), (nth ts1_ (0)).rv.v, (.int .i64 ((nth ts1_ (0)).mn)), (.int .i64 ((nth ts1_ (0)).mx)), (.bool ((nth ts1_ (0)).lz)), (nth ts1_ (0)).kv.v]) rfl Try.isAgg25 Try.sizeOf25 (c.n 1 rfl) rfl (fun _ _ hj => ((c.io 1 rfl).1.sl).elem (nth_some (i := 0) (by omega) (by omega)) hj),
    Ob.storeBox (off := 0) (v := (.agg #[(.int .i64 ((nth ts1_ (0)).k)), (.string ((nth ts1_ (0)).ch)), (.bool ((nth ts1_ (0)).ng)), (nth ts1_ (0)).rv.v, (.int .i64 ((nth ts1_ (0)).mn)), (.int .i64 ((nth ts1_ (0)).mx)), (.bool ((nth ts1_ (0)).lz)), (nth ts1_ (0)).kv.v])) rfl rfl rfl rfl Try.sizeOf25 (Nat.le_of_ble_eq_true rfl) (by simp [Value.cells, Value.oneCell', Sv.v]) rfl (fun _ _ _ _ c => ⟨c.bp 0 rfl e2, c.ad ((c.p e2).trans r0.ptr) e2 rfl, (c.n 2 rfl)⟩), trivial⟩ ?_
   intro a8 w8 τ8 st8 f8
   obtain ⟨e2, e3, -⟩ := f8.ks [(2, _), (3, _)] ⟨e2, e3, trivial⟩
   replace r0 : boxR 25 [(.int .i64 ((nth ts1_ (0)).k)), (.string ((nth ts1_ (0)).ch)), (.bool ((nth ts1_ (0)).ng)), (nth ts1_ (0)).rv.v, (.int .i64 ((nth ts1_ (0)).mn)), (.int .i64 ((nth ts1_ (0)).mx)), (.bool ((nth ts1_ (0)).lz)), (nth ts1_ (0)).kv.v] (τ8 0) b1x2 w8 := f8.rb 3 e2 rfl
   replace r1 := f8.io 1 rfl
   replace r2 := f8.iz 2 rfl
   clear f8
   show Code.wp _ _ _ a8 w8
   refine wp_ret ?_
   repeat (first | with_reducible refine then_ret ?_ | with_reducible refine block_ret ?_)
   refine ret1c (fn := Try.f15) rfl st8.defers e2 r0 Try.isAgg25 Try.sizeOf25 rfl ?_
   exact ⟨_, rfl, st8.ext0, (r2.e (by omega) (by omega)).out, alt_one hqts1_ (by omega)⟩
 try simp only [decide_eq_false_iff_not] at hc2
 refine wp_skip ?_
 show _
 show Code.wp _ _ _ a7 w7
 refine wp_seq ?_
 refine region_St (bf := [0, 1, 3]) (sp := [det _ 16 _, det _ 17 _, box _ _ 0 2 [(.int .i64 (1)), (.string ((⟨#[]⟩ : ByteArray))), (.bool (false)), (.slice none 0 0), (.int .i64 (0)), (.int .i64 (0)), (.bool (false)), kv0.v]]) [ib r0, io r1, iz r2] mixed st7 (by kernel_rfl) ⟨r0, r1, r2, trivial⟩
  ⟨Ob.d fun c => r_move rfl (c.p e3),
  Ob.d fun c => r_build (cells := #[(.int .i64 (1)), (.string ((⟨#[]⟩ : ByteArray))), (.bool (false)), (.slice none 0 0), (.int .i64 (0)), (.int .i64 (0)), (.bool (false)), kv0.v]) rfl Try.underlying25 Try.zeroValue25 (pl := #[(0, 1), (1, 1), (2, 1), (3, 1), (4, 1), (5, 1), (6, 1), (7, 1)]) (fun w_ => by simp [Try.sizeOf22, Try.sizeOf23, Try.sizeOf3, Try.sizeOf4, Try.sizeOf9]) (fill2 rfl (c.n 0 rfl) rfl),
  Ob.storeBox (off := 0) (v := (.agg #[(.int .i64 (1)), (.string ((⟨#[]⟩ : ByteArray))), (.bool (false)), (.slice none 0 0), (.int .i64 (0)), (.int .i64 (0)), (.bool (false)), kv0.v])) rfl rfl rfl rfl Try.sizeOf25 (Nat.le_of_ble_eq_true rfl) (by simp [Value.cells, Value.oneCell', Sv.v]) rfl (fun _ _ _ _ c => ⟨c.bp 0 rfl e2, c.ad ((c.p e2).trans r0.ptr) e2 rfl, (c.n 1 rfl)⟩), trivial⟩ ?_
 intro a9 w9 τ9 st9 f9
 obtain ⟨e2, -⟩ := f9.ks [(2, _)] ⟨e2, trivial⟩
 replace r0 : boxR 25 [(.int .i64 (1)), (.string ((⟨#[]⟩ : ByteArray))), (.bool (false)), (.slice none 0 0), (.int .i64 (0)), (.int .i64 (0)), (.bool (false)), kv0.v] (τ9 0) b1x2 w9 := f9.rb 2 e2 rfl
 replace r1 := f9.io 1 rfl
 replace r2 := f9.iz 2 rfl
 clear f9
 show Code.wp _ _ _ a9 w9
 refine wp_ret ?_
 repeat (first | with_reducible refine then_ret ?_ | with_reducible refine block_ret ?_)
 refine ret1c (fn := Try.f15) rfl st9.defers e2 r0 Try.isAgg25 Try.sizeOf25 rfl ?_
 exact ⟨⟨1, ⟨#[]⟩, false, Sv.nil, [], 0, 0, false, kv0, ts1_⟩, rfl, st9.ext0, mk_out r1 (fun g h => .inr (st9.bnd _ _ h).1) r2.outs, by rw [er_mk]; exact alt_many hqts1_ (by omega) (by omega)⟩
end B
end Go.Proofs.Ytocmchlhbniloaa
