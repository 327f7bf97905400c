/-
  Own texts, put together by a program (flat.py): RdI, RdJ, TreeM, RdK, RdM, LawSeqTwice.
-/
import Derived.Test.YtocmchlhbniloaaFt5
import Derived.Test.YtocmchlhbniloaaRows
import Derived.ChangeMaps5
set_option linter.unusedSimpArgs false
set_option linter.unusedVariables false
set_option linter.unusedSectionVars false
namespace Go.Proofs.Ytocmchlhbniloaa
namespace B
open Go.RowKit
open Srt
theorem pat_err {cs : List ByteArray} {g : Nat} {d : Int} {j : Nat} {A T : List Tr} (hm : moreB cs j = true) (he : ¬ (termF (fun d j => patF cs g d j [] []) cs d j).2.1 = 0) : patF cs (g + 1) d j A T = (leaf0, (termF (fun d j => patF cs g d j [] []) cs d j).2.1, (termF (fun d j => patF cs g d j [] []) cs d j).2.2) := by
  rw [patF, if_pos hm, if_pos he]
theorem pat_term {cs : List ByteArray} {g : Nat} {d : Int} {j : Nat} {A T : List Tr} (hm : moreB cs j = true) (he : (termF (fun d j => patF cs g d j [] []) cs d j).2.1 = 0) : patF cs (g + 1) d j A T = patF cs g d (termF (fun d j => patF cs g d j [] []) cs d j).2.2 A (T ++ [(termF (fun d j => patF cs g d j [] []) cs d j).1]) := by
  rw [patF, if_pos hm, if_neg (fun h => h he)]
theorem pat_alt {cs : List ByteArray} {g : Nat} {d : Int} {j : Nat} {A T : List Tr} (hm : moreB cs j = false) (ht : tkF cs j ⟨#[124]⟩ = true) : patF cs (g + 1) d j A T = patF cs g d (j + 1) (A ++ [seqF T]) [] := by
  rw [patF, if_neg (by rw [hm]; decide), if_pos ht]
theorem pat_end {cs : List ByteArray} {g : Nat} {d : Int} {j : Nat} {A T : List Tr} (hm : moreB cs j = false) (ht : tkF cs j ⟨#[124]⟩ = false) : patF cs (g + 1) d j A T = (altF (A ++ [seqF T]), 0, j) := by
  rw [patF, if_neg (by rw [hm]; decide), if_neg (by rw [ht]; decide)]
theorem wts_pos (l : List Tr) : 0 ≤ sumL (l.map wtF) := sumL_pos fun x hx => by
  obtain ⟨k, _, rfl⟩ := List.mem_map.1 hx
  have := wtF_pos k; omega
theorem ers_snoc (l : List Tr) (t : Tr) : (l ++ [t]).map er = l.map er ++ [er t] := by simp
theorem len_wt (l : List Tr) : (l.length : Int) ≤ sumL (l.map wtF) := by
  induction l using snoc_ind with
  | h0 => exact Int.le_refl _
  | h1 l x ih =>
    rw [List.map_append, List.map_cons, List.map_nil, sumL_snoc, List.length_append]
    have := wtF_pos x
    simp; omega
set_option maxRecDepth 100000 in
set_option maxHeartbeats 4000000 in
theorem pat_step (v : Value) (cv : Sv) (cs : List ByteArray) (hL : CsOk cs) (hP : CsP cs) (F0 : Nat) (ih : ∀ g < F0, ∀ (d : Int) (i : Nat) (w : World), RdR 58 v cv cs i w → i ≤ cs.length → cs.length < g + i → 0 ≤ d ∧ d ≤ 16 → Calls Try.prog 39 #[v, .int .i64 d] w (fun e w' => ∃ t' : Tr, e = .returned (.tuple #[t'.v, .int .i64 (patF cs g d i [] []).2.1]) ∧ Ext (ptrFoot v) w w' ∧ boxR 58 [cv.v, .int .i64 (((patF cs g d i [] []).2.2 : Nat) : Int)] (ptrFoot v) v w' ∧ TrT (Gn none' w) w' t' ∧ er t' = (patF cs g d i [] []).1)) (d : Int) (i : Nat) (w : World) (hR : RdR 58 v cv cs i w) (hi : i ≤ cs.length) (hf : cs.length < F0 + i) (hd : 0 ≤ d ∧ d ≤ 16) : Calls Try.prog 39 #[v, .int .i64 d] w (fun e w' => ∃ t' : Tr, e = .returned (.tuple #[t'.v, .int .i64 (patF cs F0 d i [] []).2.1]) ∧ Ext (ptrFoot v) w w' ∧ boxR 58 [cv.v, .int .i64 (((patF cs F0 d i [] []).2.2 : Nat) : Int)] (ptrFoot v) v w' ∧ TrT (Gn none' w) w' t' ∧ er t' = (patF cs F0 d i [] []).1) := by
 refine enterIn (ptrFoot v) (fun g hg => hR.box.lt g hg) (n := 54) Try.func39 rfl rfl (Nat.le_of_ble_eq_true rfl) ?_
 intro a0 τ0 ha hτ st0
 have e0 : get a0 0 = v := ha 0 _ rfl
 have e1 : get a0 1 = (.int .i64 (d)) := ha 1 _ rfl
 clear ha
 have hL1 := hL.1
 have r0 : boxR 58 [cv.v, .int .i64 ((i : Nat) : Int)] (τ0 0) v w := by rw [hτ]; exact hR.box
 have r9 : Fz (zSl StrE Al cv.v cs) τ0 w := hR.inz st0
 refine wp_seq ?_
 refine region_St (bf := [0, 0]) (sp := [box _ _ 1 4 [(.int .i64 (0)), (.string ((⟨#[]⟩ : ByteArray))), (.bool (false)), (.slice none 0 0), (.int .i64 (0)), (.int .i64 (0)), (.bool (false)), (.slice none 0 0)], det _ 5 _]) [ib r0, Ini.any _, Ini.any _, Ini.any _, Ini.any _, Ini.any _, Ini.any _, Ini.any _, Ini.any _, iz r9] mixed st0 (by kernel_rfl) ⟨r0, trivial, trivial, trivial, trivial, trivial, trivial, trivial, trivial, r9, trivial⟩
  ⟨Ob.alloc rfl rfl rfl rfl Try.zeroValue25 rfl,
  Ob.d fun c => r_assign rfl rfl, trivial⟩ ?_
 intro a1 w1 τ1 st1 f1
 obtain ⟨b1x4, e4⟩ : ∃ b, get a1 4 = b := ⟨_, rfl⟩
 obtain ⟨e0, e1, -⟩ := f1.ks [(0, _), (1, _)] ⟨e0, e1, trivial⟩
 have e5 : get a1 5 = (.int .i64 (0)) := f1.v 1 rfl
 replace r0 := f1.ib 0 rfl
 have r1 : boxR 25 [(.int .i64 (0)), (.string ((⟨#[]⟩ : ByteArray))), (.bool (false)), (.slice none 0 0), (.int .i64 (0)), (.int .i64 (0)), (.bool (false)), (.slice none 0 0)] (τ1 1) b1x4 w1 := f1.rb 0 e4 rfl
 replace r9 := f1.iz 9 rfl
 clear f1
 show Code.wp _ _ _ a1 w1
 refine wp_seq ?_
 refine region_St (bf := [0]) (sp := [det _ 6 _]) [ib r0, ib r1, Ini.any _, Ini.any _, Ini.any _, Ini.any _, Ini.any _, Ini.any _, Ini.any _, iz r9] mixed st1 (by kernel_rfl) ⟨r0, r1, trivial, trivial, trivial, trivial, trivial, trivial, trivial, r9, trivial⟩
  ⟨Ob.d fun c => r_assign rfl rfl, trivial⟩ ?_
 intro a2 w2 τ2 st2 f2
 obtain ⟨e0, e1, e4, e5, -⟩ := f2.ks [(0, _), (1, _), (4, _), (5, _)] ⟨e0, e1, e4, e5, trivial⟩
 have e6 : get a2 6 = (.slice none 0 0) := f2.v 0 rfl
 replace r0 := f2.ib 0 rfl
 replace r1 := f2.ib 1 rfl
 replace r9 := f2.iz 9 rfl
 clear f2
 show Code.wp _ _ _ a2 w2
 refine wp_block ?_
 refine wp_loop (fun a_ w_ => ∃ (j f : Nat) (u : Value) (al : List Tr) (τ : Nat → Foot), (i ≤ j ∧ j ≤ cs.length) ∧
      (cs.length < f + j ∧ f ≤ F0) ∧
      (SoFar (al.map er) [] i j d) ∧
      (patF cs F0 d i [] [] = patF cs f d j (al.map er) []) ∧
      St (fun k => ptrFoot v k ∨ w.heap.size ≤ k) w 54 a_ w_ τ ∧
      get a_ 6 = u ∧
      get a_ 0 = v ∧
      get a_ 1 = (.int .i64 (d)) ∧
      get a_ 4 = b1x4 ∧
      boxR 58 [cv.v, (.int .i64 (((j : Nat) : Int)))] (τ 0) v w_ ∧
      ownR TrE 25 (al) (τ 5) u w_ ∧
      Fz (zTl (Gn none' w) al) τ w_ ∧
      boxR 25 [(.int .i64 (0)), (.string ((⟨#[]⟩ : ByteArray))), (.bool (false)), (.slice none 0 0), (.int .i64 (0)), (.int .i64 (0)), (.bool (false)), (.slice none 0 0)] (τ 1) b1x4 w_ ∧
      Fz (zSl StrE Al cv.v cs) τ w_) (fun a_ w_ => cs.length + 10 - rdAt v w_) ?_ ?_
 · refine ⟨i, F0, (.slice none 0 0), [], τ2, ?_, ?_, ?_, ?_, st2, e6, e0, e1, e4, r0, ?_, ?_, r1, r9⟩
   · omega
   · omega
   · exact SoFar.start i d
   · rfl
   · exact ownR.nil _ _ _ _
   · exact Fz.tn _ _ _
 intro a3 w3 hI
 obtain ⟨j, f, u, al, τ3, q0, q1, q2, q3, st3, e6, e0, e1, e4, r0, r5, r6, r1, r9⟩ := hI
 have hm0 := rdAt_eq r0
 have p0 := q0
 have p1 := q1
 have p2 := q2
 have p3 := q3
 refine wp_block ?_
 refine wp_seq ?_
 refine region_St (bf := [0]) (sp := [det _ 7 _]) [ib r0, ib r1, Ini.any _, Ini.any _, Ini.any _, io r5, iz r6, Ini.any _, Ini.any _, iz r9] mixed st3 (by kernel_rfl) ⟨r0, r1, trivial, trivial, trivial, r5, r6, trivial, trivial, r9, trivial⟩
  ⟨Ob.d fun c => r_assign rfl rfl, trivial⟩ ?_
 intro a4 w4 τ4 st4 f4
 obtain ⟨e0, e1, e4, e6, -⟩ := f4.ks [(0, _), (1, _), (4, _), (6, _)] ⟨e0, e1, e4, e6, trivial⟩
 have e7 : get a4 7 = (.slice none 0 0) := f4.v 0 rfl
 replace r0 := f4.ib 0 rfl
 replace r1 := f4.ib 1 rfl
 replace r5 := f4.io 5 rfl
 replace r6 := f4.iz 6 rfl
 replace r9 := f4.iz 9 rfl
 clear f4
 show Code.wp _ _ _ a4 w4
 refine wp_seq ?_
 refine wp_block ?_
 refine wp_loop (fun a_ w_ => ∃ (m h : Nat) (y : Value) (ts : List Tr) (τ : Nat → Foot), (j ≤ m ∧ m ≤ cs.length) ∧
      (cs.length < h + m ∧ h ≤ F0) ∧
      (SoFar (al.map er) (ts.map er) i m d) ∧
      (patF cs f d j (al.map er) [] = patF cs h d m (al.map er) (ts.map er)) ∧
      St (fun k => ptrFoot v k ∨ w.heap.size ≤ k) w 54 a_ w_ τ ∧
      get a_ 7 = y ∧
      get a_ 0 = v ∧
      get a_ 1 = (.int .i64 (d)) ∧
      get a_ 4 = b1x4 ∧
      get a_ 6 = u ∧
      boxR 58 [cv.v, (.int .i64 (((m : Nat) : Int)))] (τ 0) v w_ ∧
      ownR TrE 25 (ts) (τ 7) y w_ ∧
      Fz (zTl (Gn none' w) ts) τ w_ ∧
      boxR 25 [(.int .i64 (0)), (.string ((⟨#[]⟩ : ByteArray))), (.bool (false)), (.slice none 0 0), (.int .i64 (0)), (.int .i64 (0)), (.bool (false)), (.slice none 0 0)] (τ 1) b1x4 w_ ∧
      ownR TrE 25 (al) (τ 5) u w_ ∧
      Fz (zTl (Gn none' w) al) τ w_ ∧
      Fz (zSl StrE Al cv.v cs) τ w_) (fun a_ w_ => cs.length + 10 - rdAt v w_) ?_ ?_
 · refine ⟨j, f, (.slice none 0 0), [], τ4, ?_, ?_, ?_, ?_, st4, e7, e0, e1, e4, e6, r0, ?_, ?_, r1, r5, r6, r9⟩
   · omega
   · omega
   · exact p2
   · rfl
   · exact ownR.nil _ _ _ _
   · exact Fz.tn _ _ _
 intro a5 w5 hI
 obtain ⟨m, h, y, ts, τ5, q0, q1, q2, q3, st5, e7, e0, e1, e4, e6, r0, r7, r8, r1, r5, r6, r9⟩ := hI
 obtain ⟨g, rfl⟩ : ∃ g, h = g + 1 := ⟨h - 1, by omega⟩
 have hm1 := rdAt_eq r0
 have s2 := q2
 have hwt := s2.wt
 rw [wt_map, wt_map] at hwt
 have hw1 := wts_pos al
 have hw2 := wts_pos ts
 have hpl := s2.parts
 have hla : (al.length : Int) ≤ sumL (al.map wtF) := len_wt al
 have hlt2 : (ts.length : Int) ≤ sumL (ts.map wtF) := len_wt ts
 refine wp_seq ?_
 refine wp_seq ?_
 refine region_St (bf := [0, 1, 3, 7, 0, 16, 48, 112, 240, 511, 1023, 2047, 4095, 8191, 16383, 32767, 65535, 131071, 262143, 524287]) (sp := [det _ 10 _, det _ 11 _, det _ 12 _, det _ 13 _, det _ 14 _, det _ 15 _, det _ 16 _, det _ 17 _, det _ 18 _, det _ 19 _, det _ 20 _, gdet _ 21 _ _, gdet _ 22 _ _, gdet _ 23 _ _, det _ 24 _, det _ 25 _, gdet _ 26 _ _, gdet _ 27 _ _, gdet _ 28 _ _, det _ 29 _]) [ib r0, ib r1, Ini.any _, Ini.any _, Ini.any _, io r5, iz r6, io r7, iz r8, iz r9] mixed st5 (by kernel_rfl) ⟨r0, r1, trivial, trivial, trivial, r5, r6, r7, r8, r9, trivial⟩
  ⟨Ob.d fun c => r_move rfl (c.p e0),
  Ob.d fun c => r_nilCheck rfl (c.n 0 rfl) r0.ptr,
  Ob.d fun c => r_fieldAddr rfl Try.underlying58 rfl rfl Try.sizeOf3 ((c.n 1 rfl).trans r0.ptr),
  Ob.d fun c => r_load1 rfl Try.isAgg3 (c.n 2 rfl) ((c.ib 0 rfl).cell (j := 1) rfl),
  Ob.d fun c => r_move rfl (c.p e0),
  Ob.d fun c => r_nilCheck rfl (c.n 4 rfl) r0.ptr,
  Ob.d fun c => r_fieldAddr rfl Try.underlying58 rfl rfl Try.sizeOf32 ((c.n 5 rfl).trans r0.ptr),
  Ob.d fun c => r_load1 rfl Try.isAgg32 (c.n 6 rfl) ((c.ib 0 rfl).cell (j := 0) rfl),
  Ob.d fun c => r_len rfl Try.underlying32 (c.n 7 rfl) (r9).1.sl,
  Ob.d fun c => r_lss rfl (c.n 3 rfl) (c.n 8 rfl),
  Ob.d fun c => r_move rfl (c.n 9 rfl),
  Ob.g 10 true rfl fun c hpc => r_move rfl (c.p e0),
  Ob.gc 10 true rfl fun c hpc => ⟨_, _, (e_call1 rfl rfl Try.call47 (c.m 11 rfl hpc)), see_c v cv cs m _ (rdr (c.ib 0 rfl) (c.iz 9 rfl) (fun g_ h_ hz_ => hz_.2 _ h_))⟩,
  Ob.g 10 true rfl fun c hpc => r_sneq rfl (c.m 12 rfl hpc) rfl,
  Ob.d fun c => r_and rfl (c.n 10 rfl) (fun h => c.m 13 rfl h),
  Ob.d fun c => r_move rfl (c.n 14 rfl),
  Ob.g 15 true rfl fun c hpc => r_move rfl (c.p e0),
  Ob.gc 15 true rfl fun c hpc => ⟨_, _, (e_call1 rfl rfl Try.call47 (c.m 16 rfl hpc)), see_c v cv cs m _ (rdr (c.ib 0 rfl) (c.iz 9 rfl) (fun g_ h_ hz_ => hz_.2 _ h_))⟩,
  Ob.g 15 true rfl fun c hpc => r_sneq rfl (c.m 17 rfl hpc) rfl,
  Ob.d fun c => r_and rfl (c.n 15 rfl) (fun h => c.m 18 rfl h), trivial⟩ ?_
 intro a6 w6 τ6 st6 f6
 obtain ⟨e0, e1, e4, e6, e7, -⟩ := f6.ks [(0, _), (1, _), (4, _), (6, _), (7, _)] ⟨e0, e1, e4, e6, e7, trivial⟩
 have e29 : get a6 29 = (.bool (((decide (((m : Nat) : Int) < (cs.length : Int))) && (!(eqT (seeF cs m) (⟨#[124]⟩ : ByteArray)))) && (!(eqT (seeF cs m) (⟨#[41]⟩ : ByteArray))))) := f6.v 19 rfl
 replace r0 := f6.ib 0 rfl
 replace r1 := f6.ib 1 rfl
 replace r5 := f6.io 5 rfl
 replace r6 := f6.iz 6 rfl
 replace r7 := f6.io 7 rfl
 replace r8 := f6.iz 8 rfl
 replace r9 := f6.iz 9 rfl
 clear f6
 show Code.wp _ _ _ a6 w6
 refine wp_cond_split (t := ((decide (((m : Nat) : Int) < (cs.length : Int))) && (!(eqT (seeF cs m) (⟨#[124]⟩ : ByteArray)))) && (!(eqT (seeF cs m) (⟨#[41]⟩ : ByteArray)))) e29 (fun hc1 => ?_) (fun hc1 => ?_)
 · have hd1 := hc1; try simp only [Bool.and_eq_true, Bool.and_eq_false_iff, Bool.not_eq_true', Bool.not_eq_false', decide_eq_true_eq, decide_eq_false_iff_not, Int.not_lt] at hd1
   refine wp_skip ?_
   show Code.wp _ _ _ a6 w6
   refine wp_block ?_
   refine wp_seq ?_
   refine region_of_ops ?_
   refine ops_cut 3 (by kernel_rfl) ?_
   refine ops_St (bf := [0, 0, 3]) (sp := [det _ 31 _, det _ 32 _, zbox 58 _ 0 33 (v) (fun b : Tr => [cv.v, .int .i64 (((termF (fun d j => patF cs g d j [] []) cs d m).2.2 : Nat) : Int)]) (fun b : Tr => .tuple #[b.v, .int .i64 (termF (fun d j => patF cs g d j [] []) cs d m).2.1]) (fun b : Tr => er b = (termF (fun d j => patF cs g d j [] []) cs d m).1) (fun b : Tr => zTr (Gn none' w) b)]) [ib r0, ib r1, Ini.any _, Ini.any _, Ini.any _, io r5, iz r6, io r7, iz r8, iz r9] st6 (by kernel_rfl) ⟨r0, r1, trivial, trivial, trivial, r5, r6, r7, r8, r9, trivial⟩
    ⟨Ob.d fun c => r_move rfl (c.p e0),
    Ob.d fun c => r_move rfl (c.p e1),
    Ob.zb (cells := fun b : Tr => [cv.v, .int .i64 (((termF (fun d j => patF cs g d j [] []) cs d m).2.2 : Nat) : Int)]) (f := fun b : Tr => .tuple #[b.v, .int .i64 (termF (fun d j => patF cs g d j [] []) cs d m).2.1]) (Ψ := fun b : Tr => er b = (termF (fun d j => patF cs g d j [] []) cs d m).1) (Φ := fun b : Tr => zTr (Gn none' w) b) fun {_ a_ _ _} c => ⟨_, _, (e_call2 rfl rfl Try.call48 (c.n 0 rfl) (c.n 1 rfl)), (term_c (fun d j => patF cs g d j [] []) d v cv cs m _ (rdr (c.ib 0 rfl) (c.iz 9 rfl) (fun g_ h_ hz_ => hz_.2 _ h_)) hL (by first | omega | (simp only [List.map_append, List.map_cons, List.map_nil, sumL_app, sumL_cons, sumL_nil]; omega)) hd (fun d2_ j_ w2_ hR_ hij_ hjl_ hd_ => ih g (by omega) d2_ j_ w2_ hR_ hjl_ (by omega) hd_) (fun d_ j_ hh_ => pat_le cs g d_ j_ [] [] hh_)).mono (fun e w' ⟨b_, he_, hx_, hb_, ht_, hq_⟩ => ⟨b_, he_, (c.ib 0 rfl).ext hx_, hb_.back (c.ib 0 rfl), hq_, c.tns st6 hx_.size ht_⟩)⟩, trivial⟩ ?_
   intro a7 w7 τ7 st7 f7
   obtain ⟨e0, e1, e4, e6, e7, e29, -⟩ := f7.ks [(0, _), (1, _), (4, _), (6, _), (7, _), (29, _)] ⟨e0, e1, e4, e6, e7, e29, trivial⟩
   obtain ⟨t1_, e33, hro7, hqt1_, hz7⟩ := f7.zb 2 rfl
   have e33 : get a7 33 = (.tuple #[(.agg #[(.int .i64 (t1_.k)), (.string (t1_.ch)), (.bool (t1_.ng)), t1_.rv.v, (.int .i64 (t1_.mn)), (.int .i64 (t1_.mx)), (.bool (t1_.lz)), t1_.kv.v]), (.int .i64 ((termF (fun d j => patF cs g d j [] []) cs d m).2.1))]) := e33
   replace r0 : boxR 58 [cv.v, (.int .i64 ((((termF (fun d j => patF cs g d j [] []) cs d m).2.2 : Nat) : Int)))] (τ7 0) v w7 := hro7
   replace r1 := f7.ib 1 rfl
   replace r5 := f7.io 5 rfl
   replace r6 := f7.iz 6 rfl
   replace r7 := f7.io 7 rfl
   replace r8 := f7.iz 8 rfl
   replace r9 := f7.iz 9 rfl
   have r2 : Fz (zTr (Gn none' w) t1_) τ7 w7 := hz7
   clear f7
   refine only_mk ?_
   refine ops_St (bf := [0, 1, 3, 7, 15, 31]) (sp := [det _ 30 _, det _ 34 _, det _ 35 _, box _ _ 3 8 [(.int .i64 (0)), (.string ((⟨#[]⟩ : ByteArray))), (.bool (false)), (.slice none 0 0), (.int .i64 (0)), (.int .i64 (0)), (.bool (false)), (.slice none 0 0)], box _ _ 3 8 [(.int .i64 (t1_.k)), (.string (t1_.ch)), (.bool (t1_.ng)), t1_.rv.v, (.int .i64 (t1_.mn)), (.int .i64 (t1_.mx)), (.bool (t1_.lz)), t1_.kv.v], det _ 9 _]) [ib r0, ib r1, iz r2, Ini.any _, Ini.any _, io r5, iz r6, io r7, iz r8, iz r9] st7 (by kernel_rfl) ⟨r0, r1, r2, trivial, trivial, r5, r6, r7, r8, r9, trivial⟩
    ⟨Ob.d fun c => r_move rfl (c.p e33),
    Ob.d fun c => r_extract rfl (c.n 0 rfl) rfl,
    Ob.d fun c => r_extract rfl (c.n 0 rfl) rfl,
    Ob.alloc rfl rfl rfl rfl Try.zeroValue25 rfl,
    Ob.storeBox (off := 0) (v := (.agg #[(.int .i64 (t1_.k)), (.string (t1_.ch)), (.bool (t1_.ng)), t1_.rv.v, (.int .i64 (t1_.mn)), (.int .i64 (t1_.mx)), (.bool (t1_.lz)), t1_.kv.v])) rfl rfl rfl rfl Try.sizeOf25 (Nat.le_of_ble_eq_true rfl) (by simp [Value.cells, Value.oneCell', Sv.v]) rfl (fun _ _ _ _ c => ⟨c.rb 3 rfl, (c.rb 3 rfl).ptr, (c.n 1 rfl)⟩),
    Ob.d fun c => r_assign rfl (c.n 2 rfl), trivial⟩ ?_
   intro a8 w8 τ8 st8 f8
   obtain ⟨b8x8, e8⟩ : ∃ b, get a8 8 = b := ⟨_, rfl⟩
   obtain ⟨e0, e1, e4, e6, e7, e29, -⟩ := f8.ks [(0, _), (1, _), (4, _), (6, _), (7, _), (29, _)] ⟨e0, e1, e4, e6, e7, e29, trivial⟩
   have e9 : get a8 9 = (.int .i64 ((termF (fun d j => patF cs g d j [] []) cs d m).2.1)) := f8.v 5 rfl
   replace r0 := f8.ib 0 rfl
   replace r1 := f8.ib 1 rfl
   replace r2 := f8.iz 2 rfl
   have r3 : boxR 25 [(.int .i64 (t1_.k)), (.string (t1_.ch)), (.bool (t1_.ng)), t1_.rv.v, (.int .i64 (t1_.mn)), (.int .i64 (t1_.mx)), (.bool (t1_.lz)), t1_.kv.v] (τ8 3) b8x8 w8 := f8.rb 4 e8 rfl
   replace r5 := f8.io 5 rfl
   replace r6 := f8.iz 6 rfl
   replace r7 := f8.io 7 rfl
   replace r8 := f8.iz 8 rfl
   replace r9 := f8.iz 9 rfl
   clear f8
   show Code.wp _ _ _ a8 w8
   refine wp_seq ?_
   refine wp_seq ?_
   refine region_St (bf := [0, 1]) (sp := [det _ 36 _, det _ 37 _]) [ib r0, ib r1, iz r2, ib r3, Ini.any _, io r5, iz r6, io r7, iz r8, iz r9] mixed st8 (by kernel_rfl) ⟨r0, r1, r2, r3, trivial, r5, r6, r7, r8, r9, trivial⟩
    ⟨Ob.d fun c => r_move rfl (c.p e9),
    Ob.d fun c => r_neq rfl (c.n 0 rfl) rfl, trivial⟩ ?_
   intro a9 w9 τ9 st9 f9
   obtain ⟨e0, e1, e4, e6, e7, e8, e9, e29, -⟩ := f9.ks [(0, _), (1, _), (4, _), (6, _), (7, _), (8, _), (9, _), (29, _)] ⟨e0, e1, e4, e6, e7, e8, e9, e29, trivial⟩
   have e37 : get a9 37 = (.bool (!decide ((termF (fun d j => patF cs g d j [] []) cs d m).2.1 = 0))) := f9.v 1 rfl
   replace r0 := f9.ib 0 rfl
   replace r1 := f9.ib 1 rfl
   replace r2 := f9.iz 2 rfl
   replace r3 := f9.ib 3 rfl
   replace r5 := f9.io 5 rfl
   replace r6 := f9.iz 6 rfl
   replace r7 := f9.io 7 rfl
   replace r8 := f9.iz 8 rfl
   replace r9 := f9.iz 9 rfl
   clear f9
   show Code.wp _ _ _ a9 w9
   refine wp_cond_split (t := !decide ((termF (fun d j => patF cs g d j [] []) cs d m).2.1 = 0)) e37 (fun hc2 => ?_) (fun hc2 => ?_)
   · try simp only [Bool.not_eq_true', Bool.not_eq_false', decide_eq_true_eq, decide_eq_false_iff_not] at hc2
     refine wp_seq ?_
     refine region_St (bf := [0, 0, 1, 7]) (sp := [det _ 38 _, det _ 39 _, box _ _ 1 4 [(.int .i64 (0)), (.string ((⟨#[]⟩ : ByteArray))), (.bool (false)), (.slice none 0 0), (.int .i64 (0)), (.int .i64 (0)), (.bool (false)), (.slice none 0 0)], det _ 5 _]) [ib r0, ib r1, iz r2, ib r3, Ini.any _, io r5, iz r6, io r7, iz r8, iz r9] mixed st9 (by kernel_rfl) ⟨r0, r1, r2, r3, trivial, r5, r6, r7, r8, r9, trivial⟩
      ⟨Ob.d fun c => r_build (cells := #[(.int .i64 (0)), (.string ((⟨#[]⟩ : ByteArray))), (.bool (false)), (.slice none 0 0), (.int .i64 (0)), (.int .i64 (0)), (.bool (false)), (.slice none 0 0)]) rfl Try.underlying25 Try.zeroValue25 (pl := #[(0, 1), (1, 1), (2, 1), (3, 1), (4, 1), (5, 1), (6, 1), (7, 1)]) (fun w_ => by simp [Try.sizeOf22, Try.sizeOf23, Try.sizeOf3, Try.sizeOf4, Try.sizeOf9]) (by simp only [List.map_toArray, List.map_nil]; rfl),
      Ob.d fun c => r_move rfl (c.p e9),
      Ob.storeBox (off := 0) (v := (.agg #[(.int .i64 (0)), (.string ((⟨#[]⟩ : ByteArray))), (.bool (false)), (.slice none 0 0), (.int .i64 (0)), (.int .i64 (0)), (.bool (false)), (.slice none 0 0)])) rfl rfl rfl rfl Try.sizeOf25 (Nat.le_of_ble_eq_true rfl) (by simp [Value.cells, Value.oneCell', Sv.v]) rfl (fun _ _ _ _ c => ⟨c.bp 1 rfl e4, c.ad ((c.p e4).trans r1.ptr) e4 rfl, (c.n 0 rfl)⟩),
      Ob.d fun c => r_assign rfl (c.n 1 rfl), trivial⟩ ?_
     intro a10 w10 τ10 st10 f10
     obtain ⟨e0, e1, e4, e6, e7, e8, e9, e29, e37, -⟩ := f10.ks [(0, _), (1, _), (4, _), (6, _), (7, _), (8, _), (9, _), (29, _), (37, _)] ⟨e0, e1, e4, e6, e7, e8, e9, e29, e37, trivial⟩
     have e5 : get a10 5 = (.int .i64 ((termF (fun d j => patF cs g d j [] []) cs d m).2.1)) := f10.v 3 rfl
     replace r0 := f10.ib 0 rfl
     replace r1 : boxR 25 [(.int .i64 (0)), (.string ((⟨#[]⟩ : ByteArray))), (.bool (false)), (.slice none 0 0), (.int .i64 (0)), (.int .i64 (0)), (.bool (false)), (.slice none 0 0)] (τ10 1) b1x4 w10 := f10.rb 2 e4 rfl
     replace r2 := f10.iz 2 rfl
     replace r3 := f10.ib 3 rfl
     replace r5 := f10.io 5 rfl
     replace r6 := f10.iz 6 rfl
     replace r7 := f10.io 7 rfl
     replace r8 := f10.iz 8 rfl
     replace r9 := f10.iz 9 rfl
     clear f10
     show Code.wp _ _ _ a10 w10
     refine wp_ret ?_
     repeat (first | with_reducible refine then_ret ?_ | with_reducible refine block_ret ?_)
     refine ret2c (fn := Try.f39) rfl st10.defers e4 e5 r1 Try.isAgg25 Try.sizeOf25 rfl ?_
     have he_ : patF cs F0 d i [] [] = ((leafT 0 (⟨#[]⟩ : ByteArray) false 0 0 false), (termF (fun d j => patF cs g d j [] []) cs d m).2.1, (termF (fun d j => patF cs g d j [] []) cs d m).2.2) := by rw [p3, q3, pat_err (by assumption) (by assumption)]; (try rfl)
     rw [he_]
     exact ⟨(leafT 0 (⟨#[]⟩ : ByteArray) false 0 0 false), rfl, st10.extIn, r0.foot, (leafTr _ _ _ _ _ _ _ _), rfl⟩
   try simp only [Bool.not_eq_true', Bool.not_eq_false', decide_eq_true_eq, decide_eq_false_iff_not] at hc2
   refine wp_skip ?_
   show Code.wp _ _ _ a9 w9
   have he0 : (termF (fun d j => patF cs g d j [] []) cs d m).2.1 = 0 := by assumption
   have htle := term_le (fun d_ j_ hh_ => pat_le cs g d_ j_ [] [] hh_) he0
   refine region_St (bf := [0, 0, 2, 7, 15]) (sp := [det _ 40 _, det _ 41 _, own TrE 25 _ 4 42 ([t1_]), own _ _ _ 7 43 _, own _ _ _ 7 7 _]) [ib r0, ib r1, iz r2, ib r3, Ini.any _, io r5, iz r6, io r7, iz r8, iz r9] mixed st9 (by kernel_rfl) ⟨r0, r1, r2, r3, trivial, r5, r6, r7, r8, r9, trivial⟩
    ⟨Ob.d fun c => r_move rfl (c.p e7),
    Ob.d fun c => r_loadN (vs := [(.int .i64 (t1_.k)), (.string (t1_.ch)), (.bool (t1_.ng)), t1_.rv.v, (.int .i64 (t1_.mn)), (.int .i64 (t1_.mx)), (.bool (t1_.lz)), t1_.kv.v]) rfl Try.isAgg25 Try.sizeOf25 ((c.p e8).trans r3.ptr) rfl (fun _ _ hj => (c.ib 3 rfl).cell hj),
    Ob.buildSlice (cells := #[(.int .i64 (t1_.k)), (.string (t1_.ch)), (.bool (t1_.ng)), t1_.rv.v, (.int .i64 (t1_.mn)), (.int .i64 (t1_.mx)), (.bool (t1_.lz)), t1_.kv.v]) rfl rfl rfl rfl Try.underlying23 Try.sizeOf25 Try.zeroValue25 rfl (by decide) (by decide) (fun _ _ _ _ c => fill1 (c.n 1 rfl) (by kernel_rfl)) rfl,
    Ob.append (t0 := 7) rfl rfl rfl rfl Try.underlying23 (i := Try.t25) rfl rfl rfl rfl (by simp only [maxLen]; (try simp); omega) (by show _ * 104 ≤ _; (try simp); omega) (fun _ _ _ _ c => ⟨c.ip 7 rfl e7, c.sm (c.n 0 rfl) e7, ⟨_, rfl, (c.ro 2 rfl).1.sl⟩⟩),
    Ob.moveT (t0 := 43) rfl rfl rfl rfl rfl (.inr rfl) (fun _ _ _ _ c => ⟨c.ro 3 rfl, rfl⟩), trivial⟩ ?_
   intro a11 w11 τ11 st11 f11
   obtain ⟨b11x42, e42⟩ : ∃ b, get a11 42 = b := ⟨_, rfl⟩
   obtain ⟨b11x7, e7⟩ : ∃ b, get a11 7 = b := ⟨_, rfl⟩
   obtain ⟨e0, e1, e4, e6, e8, e9, e29, e37, -⟩ := f11.ks [(0, _), (1, _), (4, _), (6, _), (8, _), (9, _), (29, _), (37, _)] ⟨e0, e1, e4, e6, e8, e9, e29, e37, trivial⟩
   replace r0 := f11.ib 0 rfl
   replace r1 := f11.ib 1 rfl
   replace r2 := f11.iz 2 rfl
   replace r3 := f11.ib 3 rfl
   have r4 : ownR TrE 25 ([t1_]) (τ11 4) b11x42 w11 := f11.ro 2 e42 rfl
   replace r5 := f11.io 5 rfl
   replace r6 := f11.iz 6 rfl
   replace r7 : ownR TrE 25 (ts ++ [t1_]) (τ11 7) b11x7 w11 := f11.ro 4 e7 rfl
   replace r8 := f11.iz 8 rfl
   replace r9 := f11.iz 9 rfl
   clear f11
   show _
   refine ⟨⟨(termF (fun d j => patF cs g d j [] []) cs d m).2.2, g, b11x7, ts ++ [t1_], τ11, ?_, ?_, ?_, ?_, st11, e7, e0, e1, e4, e6, r0, ?_, ?_, r1, r5, r6, r9⟩, ?_⟩
   · omega
   · omega
   · rw [ers_snoc, hqt1_]; exact s2.term (term_law hL hP (fun d_ j_ hh_ => pat_le cs g d_ j_ [] [] hh_) (fun d_ j_ hd_ hh_ => pat_law hL hP g d_ j_ j_ [] [] hd_ (SoFar.start j_ d_) hh_) hd.2 he0) (by omega)
   · rw [q3, pat_term (by assumption) he0, ers_snoc, hqt1_]
   · exact r7.cast (by rfl)
   · exact Fz.snoc r8 r2
   · rw [hm1, rdAt_eq r0]; omega
 have hd2 := hc1; try simp only [Bool.and_eq_true, Bool.and_eq_false_iff, Bool.not_eq_true', Bool.not_eq_false', decide_eq_true_eq, decide_eq_false_iff_not, Int.not_lt] at hd2
 refine wp_exit ?_
 repeat (with_reducible refine then_exit ?_)
 refine exit_here ?_
 show Code.wp _ _ _ a6 w6
 refine wp_seq ?_
 refine region_of_ops ?_
 refine ops_cut 3 (by kernel_rfl) ?_
 refine ops_St (bf := [0, 0, 2]) (sp := [det _ 44 _, det _ 45 _, zdet _ 46 (fun b : Tr => b.v) (fun b : Tr => er b = seqF (ts.map er)) (fun b : Tr => zTr (Gn none' w) b)]) [ib r0, ib r1, Ini.any _, Ini.any _, Ini.any _, io r5, iz r6, io r7, iz r8, iz r9] st6 (by kernel_rfl) ⟨r0, r1, trivial, trivial, trivial, r5, r6, r7, r8, r9, trivial⟩
  ⟨Ob.d fun c => r_move rfl (c.p e6),
  Ob.d fun c => r_move rfl (c.p e7),
  Ob.zc (f := fun b : Tr => b.v) (Ψ := fun b : Tr => er b = seqF (ts.map er)) (Φ := fun b : Tr => zTr (Gn none' w) b) fun {_ a_ _ _} c => ⟨_, _, (e_call1 rfl rfl Try.call14 (c.n 1 rfl)), (refSeq_c _ y ts _ (zl (c.iz 8 rfl) (c.io 7 rfl).1.sl).sl (c.iz 8 rfl) (by first | omega | (simp only [List.map_append, List.map_cons, List.map_nil, sumL_app, sumL_cons, sumL_nil]; omega))).mono (fun e w' ⟨t_, he_, hx_, ht_, hq_⟩ => ⟨t_, he_, hx_, hq_, c.tz st6 hx_ ht_⟩)⟩, trivial⟩ ?_
 intro a12 w12 τ12 st12 f12
 obtain ⟨e0, e1, e4, e6, e7, e29, -⟩ := f12.ks [(0, _), (1, _), (4, _), (6, _), (7, _), (29, _)] ⟨e0, e1, e4, e6, e7, e29, trivial⟩
 have e44 : get a12 44 = u := f12.v 0 rfl
 obtain ⟨t2_, e46, hqt2_, hz12⟩ := f12.zd 2 rfl
 have e46 : get a12 46 = (.agg #[(.int .i64 (t2_.k)), (.string (t2_.ch)), (.bool (t2_.ng)), t2_.rv.v, (.int .i64 (t2_.mn)), (.int .i64 (t2_.mx)), (.bool (t2_.lz)), t2_.kv.v]) := e46
 have hwt2_ := wt_seqb hqt2_
 replace r0 := f12.ib 0 rfl
 replace r1 := f12.ib 1 rfl
 replace r5 := f12.io 5 rfl
 replace r6 := f12.iz 6 rfl
 replace r7 := f12.io 7 rfl
 replace r8 := f12.iz 8 rfl
 replace r9 := f12.iz 9 rfl
 have r2 : Fz (zTr (Gn none' w) t2_) τ12 w12 := hz12
 clear f12
 refine only_mk ?_
 refine ops_St (bf := [0, 1, 3]) (sp := [own TrE 25 _ 3 47 ([t2_]), own _ _ _ 5 48 _, own _ _ _ 5 6 _]) [ib r0, ib r1, iz r2, Ini.any _, Ini.any _, io r5, iz r6, io r7, iz r8, iz r9] st12 (by kernel_rfl) ⟨r0, r1, r2, trivial, trivial, r5, r6, r7, r8, r9, trivial⟩
  ⟨Ob.buildSlice (cells := #[(.int .i64 (t2_.k)), (.string (t2_.ch)), (.bool (t2_.ng)), t2_.rv.v, (.int .i64 (t2_.mn)), (.int .i64 (t2_.mx)), (.bool (t2_.lz)), t2_.kv.v]) rfl rfl rfl rfl Try.underlying23 Try.sizeOf25 Try.zeroValue25 rfl (by decide) (by decide) (fun _ _ _ _ c => fill1 (c.p e46) (by kernel_rfl)) rfl,
  Ob.append (t0 := 6) rfl rfl rfl rfl Try.underlying23 (i := Try.t25) rfl rfl rfl rfl (by simp only [maxLen]; (try simp); omega) (by show _ * 104 ≤ _; (try simp); omega) (fun _ _ _ _ c => ⟨c.ip 5 rfl e6, c.sm (c.p e44) e6, ⟨_, rfl, (c.ro 0 rfl).1.sl⟩⟩),
  Ob.moveT (t0 := 48) rfl rfl rfl rfl rfl (.inr rfl) (fun _ _ _ _ c => ⟨c.ro 1 rfl, rfl⟩), trivial⟩ ?_
 intro a13 w13 τ13 st13 f13
 obtain ⟨b13x47, e47⟩ : ∃ b, get a13 47 = b := ⟨_, rfl⟩
 obtain ⟨b13x6, e6⟩ : ∃ b, get a13 6 = b := ⟨_, rfl⟩
 obtain ⟨e0, e1, e4, e7, e29, -⟩ := f13.ks [(0, _), (1, _), (4, _), (7, _), (29, _)] ⟨e0, e1, e4, e7, e29, trivial⟩
 replace r0 := f13.ib 0 rfl
 replace r1 := f13.ib 1 rfl
 replace r2 := f13.iz 2 rfl
 have r3 : ownR TrE 25 ([t2_]) (τ13 3) b13x47 w13 := f13.ro 0 e47 rfl
 replace r5 : ownR TrE 25 (al ++ [t2_]) (τ13 5) b13x6 w13 := f13.ro 2 e6 rfl
 replace r6 := f13.iz 6 rfl
 replace r7 := f13.io 7 rfl
 replace r8 := f13.iz 8 rfl
 replace r9 := f13.iz 9 rfl
 clear f13
 show Code.wp _ _ _ a13 w13
 refine wp_seq ?_
 refine region_St (bf := [0, 1, 3]) (sp := [det _ 49 _, dbox 58 _ 0 50 v [cv.v, (.int .i64 (((tkN cs m (⟨#[124]⟩ : ByteArray) : Nat) : Int)))] (.bool (tkF cs m (⟨#[124]⟩ : ByteArray))), det _ 51 _]) [ib r0, ib r1, iz r2, io r3, Ini.any _, io r5, iz r6, io r7, iz r8, iz r9] mixed st13 (by kernel_rfl) ⟨r0, r1, r2, r3, trivial, r5, r6, r7, r8, r9, trivial⟩
  ⟨Ob.d fun c => r_move rfl (c.p e0),
  Ob.db fun {_ a_ _ _} c => ⟨_, _, (e_call2 rfl rfl Try.call49 (c.n 0 rfl) rfl), db_of (c.ib 0 rfl) (take_c v cv cs m (⟨#[124]⟩ : ByteArray) _ (rdr (c.ib 0 rfl) (c.iz 9 rfl) (fun g_ h_ hz_ => hz_.2 _ h_)) hL (by first | omega | (simp only [List.map_append, List.map_cons, List.map_nil, sumL_app, sumL_cons, sumL_nil]; omega)))⟩,
  Ob.d fun c => r_not rfl (c.dv 1 rfl), trivial⟩ ?_
 intro a14 w14 τ14 st14 f14
 obtain ⟨e0, e1, e4, e6, e7, e29, -⟩ := f14.ks [(0, _), (1, _), (4, _), (6, _), (7, _), (29, _)] ⟨e0, e1, e4, e6, e7, e29, trivial⟩
 have e51 : get a14 51 = (.bool (!(tkF cs m (⟨#[124]⟩ : ByteArray)))) := f14.v 2 rfl
 replace r0 : boxR 58 [cv.v, (.int .i64 (((tkN cs m (⟨#[124]⟩ : ByteArray) : Nat) : Int)))] (τ14 0) v w14 := f14.db 1 rfl
 replace r1 := f14.ib 1 rfl
 replace r2 := f14.iz 2 rfl
 replace r3 := f14.io 3 rfl
 replace r5 := f14.io 5 rfl
 replace r6 := f14.iz 6 rfl
 replace r7 := f14.io 7 rfl
 replace r8 := f14.iz 8 rfl
 replace r9 := f14.iz 9 rfl
 clear f14
 show Code.wp _ _ _ a14 w14
 refine wp_cond_split (t := !(tkF cs m (⟨#[124]⟩ : ByteArray))) e51 (fun hc3 => ?_) (fun hc3 => ?_)
 · try simp only [Bool.not_eq_true', Bool.not_eq_false'] at hc3
   have htk3 : tkF cs m (⟨#[124]⟩ : ByteArray) = false := by simpa using hc3
   rw [tkN_f htk3] at r0
   refine wp_seq ?_
   refine region_of_ops ?_
   refine ops_cut 2 (by kernel_rfl) ?_
   refine ops_St (bf := [0, 1]) (sp := [det _ 52 _, zdet _ 53 (fun b : Tr => b.v) (fun b : Tr => er b = altF ((al ++ [t2_]).map er)) (fun b : Tr => zTr (Gn none' w) b)]) [ib r0, ib r1, iz r2, io r3, Ini.any _, io r5, iz r6, io r7, iz r8, iz r9] st14 (by kernel_rfl) ⟨r0, r1, r2, r3, trivial, r5, r6, r7, r8, r9, trivial⟩
    ⟨Ob.d fun c => r_move rfl (c.p e6),
    Ob.zc (f := fun b : Tr => b.v) (Ψ := fun b : Tr => er b = altF ((al ++ [t2_]).map er)) (Φ := fun b : Tr => zTr (Gn none' w) b) fun {_ a_ _ _} c => ⟨_, _, (e_call1 rfl rfl Try.call16 (c.n 0 rfl)), (refAlt_c _ b13x6 (al ++ [t2_]) _ (zl (zapp (c.iz 6 rfl) (zcons (c.iz 2 rfl) znil)) (c.io 5 rfl).1.sl).sl (zapp (c.iz 6 rfl) (zcons (c.iz 2 rfl) znil)) (by first | omega | (simp only [List.map_append, List.map_cons, List.map_nil, sumL_app, sumL_cons, sumL_nil]; omega))).mono (fun e w' ⟨t_, he_, hx_, ht_, hq_⟩ => ⟨t_, he_, hx_, hq_, c.tz st14 hx_ ht_⟩)⟩, trivial⟩ ?_
   intro a15 w15 τ15 st15 f15
   obtain ⟨e0, e1, e4, e6, e7, e29, e51, -⟩ := f15.ks [(0, _), (1, _), (4, _), (6, _), (7, _), (29, _), (51, _)] ⟨e0, e1, e4, e6, e7, e29, e51, trivial⟩
   obtain ⟨t3_, e53, hqt3_, hz15⟩ := f15.zd 1 rfl
   have e53 : get a15 53 = (.agg #[(.int .i64 (t3_.k)), (.string (t3_.ch)), (.bool (t3_.ng)), t3_.rv.v, (.int .i64 (t3_.mn)), (.int .i64 (t3_.mx)), (.bool (t3_.lz)), t3_.kv.v]) := e53
   have hwt3_ := wt_altb hqt3_
   replace r0 := f15.ib 0 rfl
   replace r1 := f15.ib 1 rfl
   replace r2 := f15.iz 2 rfl
   replace r3 := f15.io 3 rfl
   replace r5 := f15.io 5 rfl
   replace r6 := f15.iz 6 rfl
   replace r7 := f15.io 7 rfl
   replace r8 := f15.iz 8 rfl
   replace r9 := f15.iz 9 rfl
   have r4 : Fz (zTr (Gn none' w) t3_) τ15 w15 := hz15
   clear f15
   refine only_mk ?_
   refine ops_St (bf := [0, 1]) (sp := [box _ _ 1 4 [(.int .i64 (t3_.k)), (.string (t3_.ch)), (.bool (t3_.ng)), t3_.rv.v, (.int .i64 (t3_.mn)), (.int .i64 (t3_.mx)), (.bool (t3_.lz)), t3_.kv.v], det _ 5 _]) [ib r0, ib r1, iz r2, io r3, iz r4, io r5, iz r6, io r7, iz r8, iz r9] st15 (by kernel_rfl) ⟨r0, r1, r2, r3, r4, r5, r6, r7, r8, r9, trivial⟩
    ⟨Ob.storeBox (off := 0) (v := (.agg #[(.int .i64 (t3_.k)), (.string (t3_.ch)), (.bool (t3_.ng)), t3_.rv.v, (.int .i64 (t3_.mn)), (.int .i64 (t3_.mx)), (.bool (t3_.lz)), t3_.kv.v])) rfl rfl rfl rfl Try.sizeOf25 (Nat.le_of_ble_eq_true rfl) (by simp [Value.cells, Value.oneCell', Sv.v]) rfl (fun _ _ _ _ c => ⟨c.bp 1 rfl e4, c.ad ((c.p e4).trans r1.ptr) e4 rfl, (c.p e53)⟩),
    Ob.d fun c => r_assign rfl rfl, trivial⟩ ?_
   intro a16 w16 τ16 st16 f16
   obtain ⟨e0, e1, e4, e6, e7, e29, e51, -⟩ := f16.ks [(0, _), (1, _), (4, _), (6, _), (7, _), (29, _), (51, _)] ⟨e0, e1, e4, e6, e7, e29, e51, trivial⟩
   have e5 : get a16 5 = (.int .i64 (0)) := f16.v 1 rfl
   replace r0 := f16.ib 0 rfl
   replace r1 : boxR 25 [(.int .i64 (t3_.k)), (.string (t3_.ch)), (.bool (t3_.ng)), t3_.rv.v, (.int .i64 (t3_.mn)), (.int .i64 (t3_.mx)), (.bool (t3_.lz)), t3_.kv.v] (τ16 1) b1x4 w16 := f16.rb 0 e4 rfl
   replace r2 := f16.iz 2 rfl
   replace r3 := f16.io 3 rfl
   replace r4 := f16.iz 4 rfl
   replace r5 := f16.io 5 rfl
   replace r6 := f16.iz 6 rfl
   replace r7 := f16.io 7 rfl
   replace r8 := f16.iz 8 rfl
   replace r9 := f16.iz 9 rfl
   clear f16
   show Code.wp _ _ _ a16 w16
   refine wp_ret ?_
   repeat (first | with_reducible refine then_ret ?_ | with_reducible refine block_ret ?_)
   refine ret2c (fn := Try.f39) rfl st16.defers e4 e5 r1 Try.isAgg25 Try.sizeOf25 rfl ?_
   have he_ : patF cs F0 d i [] [] = ((er t3_), 0, m) := by rw [p3, q3, pat_end (by assumption) (by assumption), hqt3_, ers_snoc, hqt2_]
   rw [he_]
   exact ⟨t3_, rfl, st16.extIn, r0.foot, r4.out, rfl⟩
 try simp only [Bool.not_eq_true', Bool.not_eq_false'] at hc3
 have htk3 : tkF cs m (⟨#[124]⟩ : ByteArray) = true := by simpa using hc3
 have htl3 := tk_lt htk3
 rw [tkN_t htk3] at r0
 refine wp_skip ?_
 show _
 refine ⟨⟨m + 1, g, b13x6, al ++ [t2_], τ14, ?_, ?_, ?_, ?_, st14, e6, e0, e1, e4, r0, ?_, ?_, r1, r9⟩, ?_⟩
 · omega
 · omega
 · rw [ers_snoc, hqt2_]; exact s2.alt hd.2
 · rw [p3, q3, pat_alt (by assumption) (by assumption), ers_snoc, hqt2_]; (try rfl)
 · exact r5.cast (by rfl)
 · exact Fz.snoc r6 r2
 · rw [hm0, rdAt_eq r0]; omega
theorem pat_all (v : Value) (cv : Sv) (cs : List ByteArray) (hL : CsOk cs) (hP : CsP cs) (F0 : Nat) : ∀ (d : Int) (i : Nat) (w : World), RdR 58 v cv cs i w → i ≤ cs.length → cs.length < F0 + i → 0 ≤ d ∧ d ≤ 16 → Calls Try.prog 39 #[v, .int .i64 d] w (fun e w' => ∃ t' : Tr, e = .returned (.tuple #[t'.v, .int .i64 (patF cs F0 d i [] []).2.1]) ∧ Ext (ptrFoot v) w w' ∧ boxR 58 [cv.v, .int .i64 (((patF cs F0 d i [] []).2.2 : Nat) : Int)] (ptrFoot v) v w' ∧ TrT (Gn none' w) w' t' ∧ er t' = (patF cs F0 d i [] []).1) := by
  induction F0 using Nat.strongRecOn with
  | _ F0 ih => exact fun d i w hR hi hf hd => pat_step v cv cs hL hP F0 ih d i w hR hi hf hd
end B
end Go.Proofs.Ytocmchlhbniloaa
namespace Go.Proofs.Ytocmchlhbniloaa
namespace B
open Go.RowKit
open Srt
theorem spS_le (s : ByteArray) (n : Nat) (hn : n ≤ s.size) : (spS s n).1.length ≤ n ∧ (spS s n).2 ≤ n ∧ ∀ c ∈ (spS s n).1, c.size ≤ s.size := by
  induction n with
  | zero => exact ⟨Nat.le_refl _, Nat.le_refl _, fun c hc => by simp [spS] at hc⟩
  | succ n ih =>
    obtain ⟨h1, h2, h3⟩ := ih (by omega)
    rw [spS, spStep]
    split
    · refine ⟨by simp; omega, Nat.le_refl _, fun c hc => ?_⟩
      rcases List.mem_append.1 hc with hc | hc
      · exact h3 c hc
      · simp at hc; subst hc
        rw [ByteArray.size_extract]; omega
    · exact ⟨by omega, by omega, h3⟩
theorem split_ok {s : ByteArray} (h : s.size ≤ 256) : CsOk (splitF s) := by
  obtain ⟨h1, _, h3⟩ := spS_le s s.size (Nat.le_refl _)
  exact ⟨Nat.le_trans h1 h, fun c hc => Nat.le_trans (h3 c hc) h⟩
theorem proper_extract {s : ByteArray} {i e : Nat} (h1 : i < e) (h2 : e ≤ s.size) (h3 : inB (byteAt s (i : Int)) = false) (h4 : ∀ m, i < m → m < e → inB (byteAt s (m : Int)) = true) : properB (s.extract i e) = true := by
  have hl := bs_len s
  have hi : i < (bs s).length := by omega
  unfold properB
  rw [bs_extract, seg, List.drop_eq_getElem_cons hi, show e - i = (e - i - 1) + 1 by omega, List.take_succ_cons]
  have h5 : byteAt s (i : Int) = (((bs s)[i]).toNat : Int) := byteAt_eq (List.getElem?_eq_getElem hi)
  rw [h5] at h3
  simp only [inU, h3, Bool.not_false, Bool.true_and, List.all_eq_true]
  intro x hx
  obtain ⟨q, hq, rfl⟩ := List.getElem_of_mem hx
  simp only [List.length_take, List.length_drop] at hq
  have h6 := h4 (i + 1 + q) (by omega) (by omega)
  have h7 : i + 1 + q < (bs s).length := by omega
  rw [byteAt_eq (List.getElem?_eq_getElem h7)] at h6
  rw [List.getElem_take, List.getElem_drop]
  exact h6
theorem spS_proper (s : ByteArray) (k : Nat) (hk : k ≤ s.size) : (∀ i : Nat, 1 ≤ i → i < (spS s k).1.length → properB (nth (spS s k).1 (i : Int)) = true) ∧ ((spS s k).1 ≠ [] → (spS s k).2 < s.size → inB (byteAt s ((spS s k).2 : Int)) = false) ∧ (∀ m, (spS s k).2 < m → m ≤ k → m < s.size → inB (byteAt s (m : Int)) = true) := by
  induction k with
  | zero => exact ⟨fun i h1 h2 => by simp [spS] at h2, fun h => absurd rfl h, fun m h1 h2 h3 => by omega⟩
  | succ k ih =>
    obtain ⟨a, b, c⟩ := ih (by omega)
    have hfr := spS_from s k
    rw [spS, spStep]
    split
    · rename_i hc
      refine ⟨fun i h1 h2 => ?_, fun _ h => ?_, fun m h1 h2 h3 => ?_⟩
      · simp only [List.length_append, List.length_cons, List.length_nil] at h2
        by_cases hlt : i < (spS s k).1.length
        · have := a i h1 hlt
          rw [nth_lt hlt |> fun h => nth_of (xs := (spS s k).1 ++ [s.extract (spS s k).2 (k + 1)]) (by rw [List.getElem?_append_left hlt]; exact h)]
          exact this
        · obtain rfl : i = (spS s k).1.length := by omega
          rw [nth_of (xs := (spS s k).1 ++ [s.extract (spS s k).2 (k + 1)]) (x := s.extract (spS s k).2 (k + 1)) (by rw [List.getElem?_append_right (Nat.le_refl _)]; simp)]
          have hne : (spS s k).1 ≠ [] := fun e => by rw [e] at h1; simp at h1
          exact proper_extract (by omega) hk (b hne (by omega)) fun m h3 h4 => c m h3 (by omega) (by omega)
      · simp only [Bool.or_eq_true, decide_eq_true_eq] at hc
        simp only [] at h
        rcases hc with hc | hc
        · omega
        · rw [lead_eq] at hc; simpa using hc
      · simp only [] at h1; omega
    · rename_i hc
      refine ⟨a, b, fun m h1 h2 h3 => ?_⟩
      by_cases e : m = k + 1
      · subst e
        simp only [Bool.or_eq_true, decide_eq_true_eq, not_or] at hc
        have := hc.2
        rw [lead_eq] at this; simpa using this
      · exact c m h1 (by omega) h3
theorem split_proper (s : ByteArray) : CsP (splitF s) := fun i h1 h2 => (spS_proper s s.size (Nat.le_refl _)).1 i h1 h2
set_option maxRecDepth 100000 in
set_option maxHeartbeats 4000000 in
theorem read_c (s : ByteArray) (w : World) : Calls Try.prog 33 #[(.string (s))] w (fun e w' => ∃ t' : Tr, e = .returned (.tuple #[t'.v, .int .i64 (readF s).2]) ∧ Ext none' w w' ∧ TrT (Gn none' w) w' t' ∧ er t' = (readF s).1) := by
 refine enter (n := 39) Try.func33 rfl rfl (Nat.le_of_ble_eq_true rfl) ?_
 intro a0 τ0 ha st0
 have e0 : get a0 0 = (.string (s)) := ha 0 _ rfl
 clear ha
 refine wp_seq ?_
 refine region_St (bf := [0, 0]) (sp := [box _ _ 0 2 [(.int .i64 (0)), (.string ((⟨#[]⟩ : ByteArray))), (.bool (false)), (.slice none 0 0), (.int .i64 (0)), (.int .i64 (0)), (.bool (false)), (.slice none 0 0)], det _ 3 _]) [] mixed st0 (by kernel_rfl) trivial
  ⟨Ob.alloc rfl rfl rfl rfl Try.zeroValue25 rfl,
  Ob.d fun c => r_assign rfl rfl, trivial⟩ ?_
 intro a1 w1 τ1 st1 f1
 obtain ⟨b1x2, e2⟩ : ∃ b, get a1 2 = b := ⟨_, rfl⟩
 obtain ⟨e0, -⟩ := f1.ks [(0, _)] ⟨e0, trivial⟩
 have e3 : get a1 3 = (.int .i64 (0)) := f1.v 1 rfl
 have r0 : boxR 25 [(.int .i64 (0)), (.string ((⟨#[]⟩ : ByteArray))), (.bool (false)), (.slice none 0 0), (.int .i64 (0)), (.int .i64 (0)), (.bool (false)), (.slice none 0 0)] (τ1 0) b1x2 w1 := f1.rb 0 e2 rfl
 clear f1
 show Code.wp _ _ _ a1 w1
 refine wp_seq ?_
 refine wp_seq ?_
 refine region_St (bf := [0, 1, 3]) (sp := [det _ 7 _, det _ 8 _, det _ 9 _]) [ib r0] mixed st1 (by kernel_rfl) ⟨r0, trivial⟩
  ⟨Ob.d fun c => r_move rfl (c.p e0),
  Ob.d fun c => r_lenS rfl Try.underlying9 (c.n 0 rfl),
  Ob.d fun c => r_gtr rfl (c.n 1 rfl) rfl, trivial⟩ ?_
 intro a2 w2 τ2 st2 f2
 obtain ⟨e0, e2, e3, -⟩ := f2.ks [(0, _), (2, _), (3, _)] ⟨e0, e2, e3, trivial⟩
 have e9 : get a2 9 = (.bool (decide (256 < (s.size : Int)))) := f2.v 2 rfl
 replace r0 := f2.ib 0 rfl
 clear f2
 show Code.wp _ _ _ a2 w2
 refine wp_cond_split (t := decide (256 < (s.size : Int))) e9 (fun hc1 => ?_) (fun hc1 => ?_)
 · try simp only [decide_eq_true_eq] at hc1
   refine wp_seq ?_
   refine region_St (bf := [0, 1, 3]) (sp := [det _ 10 _, box _ _ 0 2 [(.int .i64 (0)), (.string ((⟨#[]⟩ : ByteArray))), (.bool (false)), (.slice none 0 0), (.int .i64 (0)), (.int .i64 (0)), (.bool (false)), (.slice none 0 0)], det _ 3 _]) [ib r0] mixed st2 (by kernel_rfl) ⟨r0, trivial⟩
    ⟨Ob.d fun c => r_build (cells := #[(.int .i64 (0)), (.string ((⟨#[]⟩ : ByteArray))), (.bool (false)), (.slice none 0 0), (.int .i64 (0)), (.int .i64 (0)), (.bool (false)), (.slice none 0 0)]) rfl Try.underlying25 Try.zeroValue25 (pl := #[(0, 1), (1, 1), (2, 1), (3, 1), (4, 1), (5, 1), (6, 1), (7, 1)]) (fun w_ => by simp [Try.sizeOf22, Try.sizeOf23, Try.sizeOf3, Try.sizeOf4, Try.sizeOf9]) (by simp only [List.map_toArray, List.map_nil]; rfl),
    Ob.storeBox (off := 0) (v := (.agg #[(.int .i64 (0)), (.string ((⟨#[]⟩ : ByteArray))), (.bool (false)), (.slice none 0 0), (.int .i64 (0)), (.int .i64 (0)), (.bool (false)), (.slice none 0 0)])) rfl rfl rfl rfl Try.sizeOf25 (Nat.le_of_ble_eq_true rfl) (by simp [Value.cells, Value.oneCell', Sv.v]) rfl (fun _ _ _ _ c => ⟨c.bp 0 rfl e2, c.ad ((c.p e2).trans r0.ptr) e2 rfl, (c.n 0 rfl)⟩),
    Ob.d fun c => r_assign rfl rfl, trivial⟩ ?_
   intro a3 w3 τ3 st3 f3
   obtain ⟨e0, e2, -⟩ := f3.ks [(0, _), (2, _)] ⟨e0, e2, trivial⟩
   have e3 : get a3 3 = (.int .i64 (4)) := f3.v 2 rfl
   replace r0 : boxR 25 [(.int .i64 (0)), (.string ((⟨#[]⟩ : ByteArray))), (.bool (false)), (.slice none 0 0), (.int .i64 (0)), (.int .i64 (0)), (.bool (false)), (.slice none 0 0)] (τ3 0) b1x2 w3 := f3.rb 1 e2 rfl
   clear f3
   show Code.wp _ _ _ a3 w3
   refine wp_ret ?_
   repeat (first | with_reducible refine then_ret ?_ | with_reducible refine block_ret ?_)
   refine ret2c (fn := Try.f33) rfl st3.defers e2 e3 r0 Try.isAgg25 Try.sizeOf25 rfl ?_
   have he_ : readF s = ((leafT 0 (⟨#[]⟩ : ByteArray) false 0 0 false), 4) := by unfold readF; (repeat (first | rw [if_neg (by first | assumption | (simp only [Bool.not_eq_true]; assumption) | (simp only [Bool.not_eq_false]; assumption) | (exact fun h_ => h_ (by assumption)) | omega)] | rw [if_pos (by first | assumption | omega)])); (try rfl)
   rw [he_]
   exact ⟨(leafT 0 (⟨#[]⟩ : ByteArray) false 0 0 false), rfl, st3.ext0, (leafTr _ _ _ _ _ _ _ _), rfl⟩
 try simp only [decide_eq_false_iff_not, Int.not_lt] at hc1
 refine wp_skip ?_
 show Code.wp _ _ _ a2 w2
 refine wp_seq ?_
 refine region_of_ops ?_
 refine ops_cut 2 (by kernel_rfl) ?_
 refine ops_St (bf := [0, 1]) (sp := [det _ 11 _, zdet _ 12 (fun b : Sv => b.v) (fun _ => True) (fun b : Sv => zSl StrE Al b.v (splitF s))]) [ib r0] st2 (by kernel_rfl) ⟨r0, trivial⟩
  ⟨Ob.d fun c => r_move rfl (c.p e0),
  Ob.zc (f := fun b : Sv => b.v) (Ψ := fun _ => True) (Φ := fun b : Sv => zSl StrE Al b.v (splitF s)) fun {_ a_ _ _} c => ⟨_, _, (e_call1 rfl rfl Try.call38 (c.n 0 rfl)), (split_c s _ (by omega)).mono (fun e w' ⟨v_, he_, hx_, hn_⟩ => by obtain ⟨s_, rfl⟩ := hn_.1.sl.sl.sv; exact ⟨s_, he_, hx_, trivial, (c.sn st2 hx_ hn_ : (zSl StrE (Gn none' w) _ _).P _ _).1, fun h_ => ⟨((c.sn st2 hx_ hn_ : (zSl StrE (Gn none' w) _ _).P _ _).2 h_).1, trivial⟩⟩)⟩, trivial⟩ ?_
 intro a4 w4 τ4 st4 f4
 obtain ⟨e2, e3, -⟩ := f4.ks [(2, _), (3, _)] ⟨e2, e3, trivial⟩
 obtain ⟨kv1_, e12, -, hz4⟩ := f4.zd 1 rfl
 have e12 : get a4 12 = kv1_.v := e12
 replace r0 := f4.ib 0 rfl
 have r1 : Fz (zSl StrE Al kv1_.v (splitF s)) τ4 w4 := hz4
 clear f4
 refine only_mk ?_
 refine ops_St (bf := [0, 1, 3]) (sp := [det _ 13 _, box _ _ 2 14 [kv1_.v, (.int .i64 (0))], box _ _ 2 4 [kv1_.v, (.int .i64 (0))]]) [ib r0, iz r1] st4 (by kernel_rfl) ⟨r0, r1, trivial⟩
  ⟨Ob.d fun c => r_build (cells := #[kv1_.v, (.int .i64 (0))]) rfl Try.underlying58 Try.zeroValue58 (pl := #[(0, 1), (1, 1)]) (fun w_ => by simp [Try.sizeOf3, Try.sizeOf32]) (fill1 (c.p e12) rfl),
  Ob.box (v := (.agg #[kv1_.v, (.int .i64 (0))])) rfl rfl rfl rfl rfl (fun _ _ _ _ c => (c.n 0 rfl)),
  Ob.moveT (t0 := 14) rfl rfl rfl rfl rfl (.inr rfl) (fun _ _ _ _ c => ⟨c.rb 1 rfl, rfl⟩), trivial⟩ ?_
 intro a5 w5 τ5 st5 f5
 obtain ⟨b5x4, e4⟩ : ∃ b, get a5 4 = b := ⟨_, rfl⟩
 obtain ⟨e2, e3, -⟩ := f5.ks [(2, _), (3, _)] ⟨e2, e3, trivial⟩
 replace r0 := f5.ib 0 rfl
 replace r1 := f5.iz 1 rfl
 have r2 : boxR 58 [kv1_.v, (.int .i64 (0))] (τ5 2) b5x4 w5 := f5.rb 2 e4 rfl
 clear f5
 show Code.wp _ _ _ a5 w5
 refine wp_seq ?_
 refine region_of_ops ?_
 refine ops_cut 2 (by kernel_rfl) ?_
 refine ops_St (bf := [0, 1]) (sp := [det _ 16 _, zbox 58 _ 2 17 (b5x4) (fun b : Tr => [kv1_.v, .int .i64 (((patF (splitF s) ((splitF s).length + 1) 0 0 [] []).2.2 : Nat) : Int)]) (fun b : Tr => .tuple #[b.v, .int .i64 (patF (splitF s) ((splitF s).length + 1) 0 0 [] []).2.1]) (fun b : Tr => er b = (patF (splitF s) ((splitF s).length + 1) 0 0 [] []).1) (fun b : Tr => zTr (Gn none' w) b)]) [ib r0, iz r1, ib r2] st5 (by kernel_rfl) ⟨r0, r1, r2, trivial⟩
  ⟨Ob.d fun c => r_move rfl (c.p e4),
  Ob.zb (cells := fun b : Tr => [kv1_.v, .int .i64 (((patF (splitF s) ((splitF s).length + 1) 0 0 [] []).2.2 : Nat) : Int)]) (f := fun b : Tr => .tuple #[b.v, .int .i64 (patF (splitF s) ((splitF s).length + 1) 0 0 [] []).2.1]) (Ψ := fun b : Tr => er b = (patF (splitF s) ((splitF s).length + 1) 0 0 [] []).1) (Φ := fun b : Tr => zTr (Gn none' w) b) fun {_ a_ _ _} c => ⟨_, _, (e_call2 rfl rfl Try.call39 (c.n 0 rfl) rfl), (pat_all b5x4 kv1_ (splitF s) (split_ok (by omega)) (split_proper s) ((splitF s).length + 1) 0 0 _ (rdr (i := 0) (c.ib 2 rfl) (c.iz 1 rfl) (fun g_ h_ hz_ => hz_.2 _ h_)) (Nat.zero_le _) (by omega) (by omega)).mono (fun e w' ⟨b_, he_, hx_, hb_, ht_, hq_⟩ => ⟨b_, he_, (c.ib 2 rfl).ext hx_, hb_.back (c.ib 2 rfl), hq_, c.tns st5 hx_.size ht_⟩)⟩, trivial⟩ ?_
 intro a6 w6 τ6 st6 f6
 obtain ⟨e2, e3, e4, -⟩ := f6.ks [(2, _), (3, _), (4, _)] ⟨e2, e3, e4, trivial⟩
 obtain ⟨t2_, e17, hro6, hqt2_, hz6⟩ := f6.zb 1 rfl
 have e17 : get a6 17 = (.tuple #[(.agg #[(.int .i64 (t2_.k)), (.string (t2_.ch)), (.bool (t2_.ng)), t2_.rv.v, (.int .i64 (t2_.mn)), (.int .i64 (t2_.mx)), (.bool (t2_.lz)), t2_.kv.v]), (.int .i64 ((patF (splitF s) ((splitF s).length + 1) 0 0 [] []).2.1))]) := e17
 replace r0 := f6.ib 0 rfl
 replace r1 := f6.iz 1 rfl
 replace r2 : boxR 58 [kv1_.v, (.int .i64 ((((patF (splitF s) ((splitF s).length + 1) 0 0 [] []).2.2 : Nat) : Int)))] (τ6 2) b5x4 w6 := hro6
 have r3 : Fz (zTr (Gn none' w) t2_) τ6 w6 := hz6
 clear f6
 refine only_mk ?_
 refine ops_St (bf := [0, 1, 3, 7, 15, 31]) (sp := [det _ 15 _, det _ 18 _, det _ 19 _, box _ _ 4 5 [(.int .i64 (0)), (.string ((⟨#[]⟩ : ByteArray))), (.bool (false)), (.slice none 0 0), (.int .i64 (0)), (.int .i64 (0)), (.bool (false)), (.slice none 0 0)], box _ _ 4 5 [(.int .i64 (t2_.k)), (.string (t2_.ch)), (.bool (t2_.ng)), t2_.rv.v, (.int .i64 (t2_.mn)), (.int .i64 (t2_.mx)), (.bool (t2_.lz)), t2_.kv.v], det _ 6 _]) [ib r0, iz r1, ib r2, iz r3] st6 (by kernel_rfl) ⟨r0, r1, r2, r3, trivial⟩
  ⟨Ob.d fun c => r_move rfl (c.p e17),
  Ob.d fun c => r_extract rfl (c.n 0 rfl) rfl,
  Ob.d fun c => r_extract rfl (c.n 0 rfl) rfl,
  Ob.alloc rfl rfl rfl rfl Try.zeroValue25 rfl,
  Ob.storeBox (off := 0) (v := (.agg #[(.int .i64 (t2_.k)), (.string (t2_.ch)), (.bool (t2_.ng)), t2_.rv.v, (.int .i64 (t2_.mn)), (.int .i64 (t2_.mx)), (.bool (t2_.lz)), t2_.kv.v])) rfl rfl rfl rfl Try.sizeOf25 (Nat.le_of_ble_eq_true rfl) (by simp [Value.cells, Value.oneCell', Sv.v]) rfl (fun _ _ _ _ c => ⟨c.rb 3 rfl, (c.rb 3 rfl).ptr, (c.n 1 rfl)⟩),
  Ob.d fun c => r_assign rfl (c.n 2 rfl), trivial⟩ ?_
 intro a7 w7 τ7 st7 f7
 obtain ⟨b7x5, e5⟩ : ∃ b, get a7 5 = b := ⟨_, rfl⟩
 obtain ⟨e2, e3, e4, -⟩ := f7.ks [(2, _), (3, _), (4, _)] ⟨e2, e3, e4, trivial⟩
 have e6 : get a7 6 = (.int .i64 ((patF (splitF s) ((splitF s).length + 1) 0 0 [] []).2.1)) := f7.v 5 rfl
 replace r0 := f7.ib 0 rfl
 replace r1 := f7.iz 1 rfl
 replace r2 := f7.ib 2 rfl
 replace r3 := f7.iz 3 rfl
 have r4 : boxR 25 [(.int .i64 (t2_.k)), (.string (t2_.ch)), (.bool (t2_.ng)), t2_.rv.v, (.int .i64 (t2_.mn)), (.int .i64 (t2_.mx)), (.bool (t2_.lz)), t2_.kv.v] (τ7 4) b7x5 w7 := f7.rb 4 e5 rfl
 clear f7
 show Code.wp _ _ _ a7 w7
 refine wp_seq ?_
 refine wp_seq ?_
 refine region_St (bf := [0, 1, 3, 7, 15, 31, 63, 7, 135, 391, 903, 1927, 4095, 8191]) (sp := [det _ 20 _, det _ 21 _, det _ 22 _, gdet _ 23 _ _, gdet _ 24 _ _, gdet _ 25 _ _, gdet _ 26 _ _, gdet _ 27 _ _, gdet _ 28 _ _, gdet _ 29 _ _, gdet _ 30 _ _, gdet _ 31 _ _, gdet _ 32 _ _, det _ 33 _]) [ib r0, iz r1, ib r2, iz r3, ib r4] mixed st7 (by kernel_rfl) ⟨r0, r1, r2, r3, r4, trivial⟩
  ⟨Ob.d fun c => r_move rfl (c.p e6),
  Ob.d fun c => r_eql rfl (c.n 0 rfl) rfl,
  Ob.d fun c => r_move rfl (c.n 1 rfl),
  Ob.g 2 true rfl fun c hpc => r_move rfl (c.p e4),
  Ob.g 2 true rfl fun c hpc => r_nilCheck rfl (c.m 3 rfl hpc) r2.ptr,
  Ob.g 2 true rfl fun c hpc => r_fieldAddr rfl Try.underlying58 rfl rfl Try.sizeOf3 ((c.m 4 rfl hpc).trans r2.ptr),
  Ob.g 2 true rfl fun c hpc => r_load1 rfl Try.isAgg3 (c.m 5 rfl hpc) ((c.ib 2 rfl).cell (j := 1) rfl),
  Ob.g 2 true rfl fun c hpc => r_move rfl (c.p e4),
  Ob.g 2 true rfl fun c hpc => r_nilCheck rfl (c.m 7 rfl hpc) r2.ptr,
  Ob.g 2 true rfl fun c hpc => r_fieldAddr rfl Try.underlying58 rfl rfl Try.sizeOf32 ((c.m 8 rfl hpc).trans r2.ptr),
  Ob.g 2 true rfl fun c hpc => r_load1 rfl Try.isAgg32 (c.m 9 rfl hpc) ((c.ib 2 rfl).cell (j := 0) rfl),
  Ob.g 2 true rfl fun c hpc => r_len rfl Try.underlying32 (c.m 10 rfl hpc) (r1).1.sl,
  Ob.g 2 true rfl fun c hpc => r_lss rfl (c.m 6 rfl hpc) (c.m 11 rfl hpc),
  Ob.d fun c => r_and rfl (c.n 2 rfl) (fun h => c.m 12 rfl h), trivial⟩ ?_
 intro a8 w8 τ8 st8 f8
 obtain ⟨e2, e3, e5, e6, -⟩ := f8.ks [(2, _), (3, _), (5, _), (6, _)] ⟨e2, e3, e5, e6, trivial⟩
 have e33 : get a8 33 = (.bool ((decide ((patF (splitF s) ((splitF s).length + 1) 0 0 [] []).2.1 = 0)) && (decide ((((patF (splitF s) ((splitF s).length + 1) 0 0 [] []).2.2 : Nat) : Int) < ((splitF s).length : Int))))) := f8.v 13 rfl
 replace r0 := f8.ib 0 rfl
 replace r1 := f8.iz 1 rfl
 replace r3 := f8.iz 3 rfl
 replace r4 := f8.ib 4 rfl
 clear f8
 show Code.wp _ _ _ a8 w8
 refine wp_cond_split (t := (decide ((patF (splitF s) ((splitF s).length + 1) 0 0 [] []).2.1 = 0)) && (decide ((((patF (splitF s) ((splitF s).length + 1) 0 0 [] []).2.2 : Nat) : Int) < ((splitF s).length : Int)))) e33 (fun hc2 => ?_) (fun hc2 => ?_)
 · try simp only [Bool.and_eq_true, decide_eq_true_eq] at hc2
   refine region_St (bf := [0]) (sp := [det _ 6 _]) [ib r0, Ini.any _, Ini.any _, iz r3, ib r4] mixed st8 (by kernel_rfl) ⟨r0, trivial, trivial, r3, r4, trivial⟩
    ⟨Ob.d fun c => r_assign rfl rfl, trivial⟩ ?_
   intro a9 w9 τ9 st9 f9
   obtain ⟨e2, e3, e5, -⟩ := f9.ks [(2, _), (3, _), (5, _)] ⟨e2, e3, e5, trivial⟩
   have e6 : get a9 6 = (.int .i64 (10)) := f9.v 0 rfl
   replace r0 := f9.ib 0 rfl
   replace r3 := f9.iz 3 rfl
   replace r4 := f9.ib 4 rfl
   clear f9
   show Code.wp _ _ _ a9 w9
   refine wp_seq ?_
   refine wp_seq ?_
   refine region_St (bf := [0, 1]) (sp := [det _ 34 _, det _ 35 _]) [ib r0, Ini.any _, Ini.any _, iz r3, ib r4] mixed st9 (by kernel_rfl) ⟨r0, trivial, trivial, r3, r4, trivial⟩
    ⟨Ob.d fun c => r_move rfl (c.p e6),
    Ob.d fun c => r_neq rfl (c.n 0 rfl) rfl, trivial⟩ ?_
   intro a10 w10 τ10 st10 f10
   obtain ⟨e2, e3, e5, e6, -⟩ := f10.ks [(2, _), (3, _), (5, _), (6, _)] ⟨e2, e3, e5, e6, trivial⟩
   have e35 : get a10 35 = (.bool (!decide (10 = 0))) := f10.v 1 rfl
   replace r0 := f10.ib 0 rfl
   replace r3 := f10.iz 3 rfl
   replace r4 := f10.ib 4 rfl
   clear f10
   show Code.wp _ _ _ a10 w10
   refine wp_cond_split (t := !decide (10 = 0)) e35 (fun hc3 => ?_) (fun hc3 => ?_)
   · try simp only [Bool.not_eq_true', Bool.not_eq_false', decide_eq_true_eq, decide_eq_false_iff_not] at hc3
     refine wp_seq ?_
     refine region_St (bf := [0, 0, 1, 7]) (sp := [det _ 36 _, det _ 37 _, box _ _ 0 2 [(.int .i64 (0)), (.string ((⟨#[]⟩ : ByteArray))), (.bool (false)), (.slice none 0 0), (.int .i64 (0)), (.int .i64 (0)), (.bool (false)), (.slice none 0 0)], det _ 3 _]) [ib r0, Ini.any _, Ini.any _, iz r3, ib r4] mixed st10 (by kernel_rfl) ⟨r0, trivial, trivial, r3, r4, trivial⟩
      ⟨Ob.d fun c => r_build (cells := #[(.int .i64 (0)), (.string ((⟨#[]⟩ : ByteArray))), (.bool (false)), (.slice none 0 0), (.int .i64 (0)), (.int .i64 (0)), (.bool (false)), (.slice none 0 0)]) rfl Try.underlying25 Try.zeroValue25 (pl := #[(0, 1), (1, 1), (2, 1), (3, 1), (4, 1), (5, 1), (6, 1), (7, 1)]) (fun w_ => by simp [Try.sizeOf22, Try.sizeOf23, Try.sizeOf3, Try.sizeOf4, Try.sizeOf9]) (by simp only [List.map_toArray, List.map_nil]; rfl),
      Ob.d fun c => r_move rfl (c.p e6),
      Ob.storeBox (off := 0) (v := (.agg #[(.int .i64 (0)), (.string ((⟨#[]⟩ : ByteArray))), (.bool (false)), (.slice none 0 0), (.int .i64 (0)), (.int .i64 (0)), (.bool (false)), (.slice none 0 0)])) rfl rfl rfl rfl Try.sizeOf25 (Nat.le_of_ble_eq_true rfl) (by simp [Value.cells, Value.oneCell', Sv.v]) rfl (fun _ _ _ _ c => ⟨c.bp 0 rfl e2, c.ad ((c.p e2).trans r0.ptr) e2 rfl, (c.n 0 rfl)⟩),
      Ob.d fun c => r_assign rfl (c.n 1 rfl), trivial⟩ ?_
     intro a11 w11 τ11 st11 f11
     obtain ⟨e2, e5, -⟩ := f11.ks [(2, _), (5, _)] ⟨e2, e5, trivial⟩
     have e3 : get a11 3 = (.int .i64 (10)) := f11.v 3 rfl
     replace r0 : boxR 25 [(.int .i64 (0)), (.string ((⟨#[]⟩ : ByteArray))), (.bool (false)), (.slice none 0 0), (.int .i64 (0)), (.int .i64 (0)), (.bool (false)), (.slice none 0 0)] (τ11 0) b1x2 w11 := f11.rb 2 e2 rfl
     replace r3 := f11.iz 3 rfl
     replace r4 := f11.ib 4 rfl
     clear f11
     show Code.wp _ _ _ a11 w11
     refine wp_ret ?_
     repeat (first | with_reducible refine then_ret ?_ | with_reducible refine block_ret ?_)
     refine ret2c (fn := Try.f33) rfl st11.defers e2 e3 r0 Try.isAgg25 Try.sizeOf25 rfl ?_
     have he_ : readF s = ((leafT 0 (⟨#[]⟩ : ByteArray) false 0 0 false), 10) := by unfold readF; (repeat (first | rw [if_neg (by first | assumption | (simp only [Bool.not_eq_true]; assumption) | (simp only [Bool.not_eq_false]; assumption) | (exact fun h_ => h_ (by assumption)) | omega)] | rw [if_pos (by first | assumption | omega)])); (try rfl)
     rw [he_]
     exact ⟨(leafT 0 (⟨#[]⟩ : ByteArray) false 0 0 false), rfl, st11.ext0, (leafTr _ _ _ _ _ _ _ _), rfl⟩
   try simp only [Bool.not_eq_true', Bool.not_eq_false', decide_eq_true_eq, decide_eq_false_iff_not] at hc3
   refine wp_skip ?_
   show Code.wp _ _ _ a10 w10
   refine wp_seq ?_
   refine region_St (bf := [0, 1, 3]) (sp := [det _ 38 _, box _ _ 0 2 [(.int .i64 (t2_.k)), (.string (t2_.ch)), (.bool (t2_.ng)), t2_.rv.v, (.int .i64 (t2_.mn)), (.int .i64 (t2_.mx)), (.bool (t2_.lz)), t2_.kv.v], det _ 3 _]) [ib r0, Ini.any _, Ini.any _, iz r3, ib r4] mixed st10 (by kernel_rfl) ⟨r0, trivial, trivial, r3, r4, trivial⟩
    ⟨Ob.d fun c => r_loadN (vs := [(.int .i64 (t2_.k)), (.string (t2_.ch)), (.bool (t2_.ng)), t2_.rv.v, (.int .i64 (t2_.mn)), (.int .i64 (t2_.mx)), (.bool (t2_.lz)), t2_.kv.v]) rfl Try.isAgg25 Try.sizeOf25 ((c.p e5).trans r4.ptr) rfl (fun _ _ hj => (c.ib 4 rfl).cell hj),
    Ob.storeBox (off := 0) (v := (.agg #[(.int .i64 (t2_.k)), (.string (t2_.ch)), (.bool (t2_.ng)), t2_.rv.v, (.int .i64 (t2_.mn)), (.int .i64 (t2_.mx)), (.bool (t2_.lz)), t2_.kv.v])) rfl rfl rfl rfl Try.sizeOf25 (Nat.le_of_ble_eq_true rfl) (by simp [Value.cells, Value.oneCell', Sv.v]) rfl (fun _ _ _ _ c => ⟨c.bp 0 rfl e2, c.ad ((c.p e2).trans r0.ptr) e2 rfl, (c.n 0 rfl)⟩),
    Ob.d fun c => r_assign rfl rfl, trivial⟩ ?_
   intro a12 w12 τ12 st12 f12
   obtain ⟨e2, -⟩ := f12.ks [(2, _)] ⟨e2, trivial⟩
   have e3 : get a12 3 = (.int .i64 (0)) := f12.v 2 rfl
   replace r0 : boxR 25 [(.int .i64 (t2_.k)), (.string (t2_.ch)), (.bool (t2_.ng)), t2_.rv.v, (.int .i64 (t2_.mn)), (.int .i64 (t2_.mx)), (.bool (t2_.lz)), t2_.kv.v] (τ12 0) b1x2 w12 := f12.rb 1 e2 rfl
   replace r3 := f12.iz 3 rfl
   clear f12
   show Code.wp _ _ _ a12 w12
   refine wp_ret ?_
   repeat (first | with_reducible refine then_ret ?_ | with_reducible refine block_ret ?_)
   refine ret2c (fn := Try.f33) rfl st12.defers e2 e3 r0 Try.isAgg25 Try.sizeOf25 rfl ?_
   have he_ : readF s = ((er t2_), 0) := by rw [hqt2_]; unfold readF; (repeat (first | rw [if_neg (by first | assumption | (simp only [Bool.not_eq_true]; assumption) | (simp only [Bool.not_eq_false]; assumption) | (exact fun h_ => h_ (by assumption)) | omega)] | rw [if_pos (by first | assumption | omega)])); (try rfl)
   rw [he_]
   exact ⟨t2_, rfl, st12.ext0, r3.out, rfl⟩
 try simp only [Bool.and_eq_false_iff, decide_eq_false_iff_not, Int.not_lt] at hc2
 refine wp_skip ?_
 show Code.wp _ _ _ a8 w8
 refine wp_seq ?_
 refine wp_seq ?_
 refine region_St (bf := [0, 1]) (sp := [det _ 34 _, det _ 35 _]) [ib r0, Ini.any _, Ini.any _, iz r3, ib r4] mixed st8 (by kernel_rfl) ⟨r0, trivial, trivial, r3, r4, trivial⟩
  ⟨Ob.d fun c => r_move rfl (c.p e6),
  Ob.d fun c => r_neq rfl (c.n 0 rfl) rfl, trivial⟩ ?_
 intro a13 w13 τ13 st13 f13
 obtain ⟨e2, e3, e5, e6, -⟩ := f13.ks [(2, _), (3, _), (5, _), (6, _)] ⟨e2, e3, e5, e6, trivial⟩
 have e35 : get a13 35 = (.bool (!decide ((patF (splitF s) ((splitF s).length + 1) 0 0 [] []).2.1 = 0))) := f13.v 1 rfl
 replace r0 := f13.ib 0 rfl
 replace r3 := f13.iz 3 rfl
 replace r4 := f13.ib 4 rfl
 clear f13
 show Code.wp _ _ _ a13 w13
 refine wp_cond_split (t := !decide ((patF (splitF s) ((splitF s).length + 1) 0 0 [] []).2.1 = 0)) e35 (fun hc4 => ?_) (fun hc4 => ?_)
 · try simp only [Bool.not_eq_true', Bool.not_eq_false', decide_eq_true_eq, decide_eq_false_iff_not] at hc4
   refine wp_seq ?_
   refine region_St (bf := [0, 0, 1, 7]) (sp := [det _ 36 _, det _ 37 _, box _ _ 0 2 [(.int .i64 (0)), (.string ((⟨#[]⟩ : ByteArray))), (.bool (false)), (.slice none 0 0), (.int .i64 (0)), (.int .i64 (0)), (.bool (false)), (.slice none 0 0)], det _ 3 _]) [ib r0, Ini.any _, Ini.any _, iz r3, ib r4] mixed st13 (by kernel_rfl) ⟨r0, trivial, trivial, r3, r4, trivial⟩
    ⟨Ob.d fun c => r_build (cells := #[(.int .i64 (0)), (.string ((⟨#[]⟩ : ByteArray))), (.bool (false)), (.slice none 0 0), (.int .i64 (0)), (.int .i64 (0)), (.bool (false)), (.slice none 0 0)]) rfl Try.underlying25 Try.zeroValue25 (pl := #[(0, 1), (1, 1), (2, 1), (3, 1), (4, 1), (5, 1), (6, 1), (7, 1)]) (fun w_ => by simp [Try.sizeOf22, Try.sizeOf23, Try.sizeOf3, Try.sizeOf4, Try.sizeOf9]) (by simp only [List.map_toArray, List.map_nil]; rfl),
    Ob.d fun c => r_move rfl (c.p e6),
    Ob.storeBox (off := 0) (v := (.agg #[(.int .i64 (0)), (.string ((⟨#[]⟩ : ByteArray))), (.bool (false)), (.slice none 0 0), (.int .i64 (0)), (.int .i64 (0)), (.bool (false)), (.slice none 0 0)])) rfl rfl rfl rfl Try.sizeOf25 (Nat.le_of_ble_eq_true rfl) (by simp [Value.cells, Value.oneCell', Sv.v]) rfl (fun _ _ _ _ c => ⟨c.bp 0 rfl e2, c.ad ((c.p e2).trans r0.ptr) e2 rfl, (c.n 0 rfl)⟩),
    Ob.d fun c => r_assign rfl (c.n 1 rfl), trivial⟩ ?_
   intro a14 w14 τ14 st14 f14
   obtain ⟨e2, e5, -⟩ := f14.ks [(2, _), (5, _)] ⟨e2, e5, trivial⟩
   have e3 : get a14 3 = (.int .i64 ((patF (splitF s) ((splitF s).length + 1) 0 0 [] []).2.1)) := f14.v 3 rfl
   replace r0 : boxR 25 [(.int .i64 (0)), (.string ((⟨#[]⟩ : ByteArray))), (.bool (false)), (.slice none 0 0), (.int .i64 (0)), (.int .i64 (0)), (.bool (false)), (.slice none 0 0)] (τ14 0) b1x2 w14 := f14.rb 2 e2 rfl
   replace r3 := f14.iz 3 rfl
   replace r4 := f14.ib 4 rfl
   clear f14
   show Code.wp _ _ _ a14 w14
   refine wp_ret ?_
   repeat (first | with_reducible refine then_ret ?_ | with_reducible refine block_ret ?_)
   refine ret2c (fn := Try.f33) rfl st14.defers e2 e3 r0 Try.isAgg25 Try.sizeOf25 rfl ?_
   have he_ : readF s = ((leafT 0 (⟨#[]⟩ : ByteArray) false 0 0 false), (patF (splitF s) ((splitF s).length + 1) 0 0 [] []).2.1) := by unfold readF; (repeat (first | rw [if_neg (by first | assumption | (simp only [Bool.not_eq_true]; assumption) | (simp only [Bool.not_eq_false]; assumption) | (exact fun h_ => h_ (by assumption)) | omega)] | rw [if_pos (by first | assumption | omega)])); (try rfl)
   rw [he_]
   exact ⟨(leafT 0 (⟨#[]⟩ : ByteArray) false 0 0 false), rfl, st14.ext0, (leafTr _ _ _ _ _ _ _ _), rfl⟩
 try simp only [Bool.not_eq_true', Bool.not_eq_false', decide_eq_true_eq, decide_eq_false_iff_not] at hc4
 refine wp_skip ?_
 show Code.wp _ _ _ a13 w13
 refine wp_seq ?_
 refine region_St (bf := [0, 1, 3]) (sp := [det _ 38 _, box _ _ 0 2 [(.int .i64 (t2_.k)), (.string (t2_.ch)), (.bool (t2_.ng)), t2_.rv.v, (.int .i64 (t2_.mn)), (.int .i64 (t2_.mx)), (.bool (t2_.lz)), t2_.kv.v], det _ 3 _]) [ib r0, Ini.any _, Ini.any _, iz r3, ib r4] mixed st13 (by kernel_rfl) ⟨r0, trivial, trivial, r3, r4, trivial⟩
  ⟨Ob.d fun c => r_loadN (vs := [(.int .i64 (t2_.k)), (.string (t2_.ch)), (.bool (t2_.ng)), t2_.rv.v, (.int .i64 (t2_.mn)), (.int .i64 (t2_.mx)), (.bool (t2_.lz)), t2_.kv.v]) rfl Try.isAgg25 Try.sizeOf25 ((c.p e5).trans r4.ptr) rfl (fun _ _ hj => (c.ib 4 rfl).cell hj),
  Ob.storeBox (off := 0) (v := (.agg #[(.int .i64 (t2_.k)), (.string (t2_.ch)), (.bool (t2_.ng)), t2_.rv.v, (.int .i64 (t2_.mn)), (.int .i64 (t2_.mx)), (.bool (t2_.lz)), t2_.kv.v])) rfl rfl rfl rfl Try.sizeOf25 (Nat.le_of_ble_eq_true rfl) (by simp [Value.cells, Value.oneCell', Sv.v]) rfl (fun _ _ _ _ c => ⟨c.bp 0 rfl e2, c.ad ((c.p e2).trans r0.ptr) e2 rfl, (c.n 0 rfl)⟩),
  Ob.d fun c => r_assign rfl rfl, trivial⟩ ?_
 intro a15 w15 τ15 st15 f15
 obtain ⟨e2, -⟩ := f15.ks [(2, _)] ⟨e2, trivial⟩
 have e3 : get a15 3 = (.int .i64 (0)) := f15.v 2 rfl
 replace r0 : boxR 25 [(.int .i64 (t2_.k)), (.string (t2_.ch)), (.bool (t2_.ng)), t2_.rv.v, (.int .i64 (t2_.mn)), (.int .i64 (t2_.mx)), (.bool (t2_.lz)), t2_.kv.v] (τ15 0) b1x2 w15 := f15.rb 1 e2 rfl
 replace r3 := f15.iz 3 rfl
 clear f15
 show Code.wp _ _ _ a15 w15
 refine wp_ret ?_
 repeat (first | with_reducible refine then_ret ?_ | with_reducible refine block_ret ?_)
 refine ret2c (fn := Try.f33) rfl st15.defers e2 e3 r0 Try.isAgg25 Try.sizeOf25 rfl ?_
 have he_ : readF s = ((er t2_), 0) := by rw [hqt2_]; unfold readF; (repeat (first | rw [if_neg (by first | assumption | (simp only [Bool.not_eq_true]; assumption) | (simp only [Bool.not_eq_false]; assumption) | (exact fun h_ => h_ (by assumption)) | omega)] | rw [if_pos (by first | assumption | omega)])); (try rfl)
 rw [he_]
 exact ⟨t2_, rfl, st15.ext0, r3.out, rfl⟩
end B
end Go.Proofs.Ytocmchlhbniloaa
namespace Go.Proofs.Ytocmchlhbniloaa
namespace B
open Srt
theorem split_len (s : ByteArray) : (splitF s).length ≤ s.size := spS_len s s.size
theorem read_law {s : ByteArray} (hc : s.size ≤ 256 → CsOk (splitF s)) (hp : CsP (splitF s)) (h : (readF s).2 = 0) : PatOk (readF s).1 (s.size : Int) 0 := by
  unfold readF at h ⊢
  split at h
  · cases h
  · rename_i h1
    rw [if_neg h1]
    split at h
    · rename_i h2; exact absurd h h2
    · rename_i h2
      rw [if_neg h2]
      split at h
      · cases h
      · rename_i h3
        rw [if_neg h3]
        have e2 := Classical.byContradiction h2
        have a1 := pat_le _ _ _ _ _ _ e2
        have a2 := pat_law (hc (by omega)) hp _ 0 0 0 [] [] (by decide) (SoFar.start 0 0) e2
        have a3 := split_len s
        have b1 := a2.wt; have b2 := a2.parts; have b3 := a2.deep
        have e0 : ((0 : Nat) : Int) = 0 := rfl
        exact ⟨by simp only [] ; omega, by simp only []; omega, b3, a2.all⟩
def treesF (ss : List ByteArray) : List Tr := (ss.filter fun s => decide ((readF s).2 = 0)).map fun s => (readF s).1
theorem trees_hit {ss : List ByteArray} {k : Nat} (h : k < ss.length) (hc : (readF (nth ss (k : Int))).2 = 0) : treesF (ss.take (k + 1)) = treesF (ss.take k) ++ [(readF (nth ss (k : Int))).1] := by
  unfold treesF
  rw [take_snoc h, List.filter_append, List.map_append]
  simp [hc]
theorem trees_miss {ss : List ByteArray} {k : Nat} (h : k < ss.length) (hc : ¬ (readF (nth ss (k : Int))).2 = 0) : treesF (ss.take (k + 1)) = treesF (ss.take k) := by
  unfold treesF
  rw [take_snoc h, List.filter_append, List.map_append]
  simp [hc]
theorem long_sum {ss : List ByteArray} : ∀ {n : Int}, 0 ≤ n → longL n ss = false → sumL (ss.map fun s => (s.size : Int) + 1) ≤ n := by
  induction ss with
  | nil => intro n hn _; simpa [sumL] using hn
  | cons s ss ih =>
    intro n hn h
    rw [longL, Bool.or_eq_false_iff, decide_eq_false_iff_not] at h
    have := ih (n := n - (s.size : Int) - 1) (by omega) h.2
    rw [List.map_cons, sumL_cons]; omega
structure XsOk (l : List Tr) : Prop where
  all : ∀ x ∈ l, allF x = true ∧ deepF x ≤ 16
  parts : sumL (l.map partsF) ≤ 210
  wt : sumL (l.map wtF) ≤ 300000
theorem trees_ok {ss : List ByteArray} (hc : ∀ s ∈ ss, s.size ≤ 256 → CsOk (splitF s)) (hp : ∀ s ∈ ss, CsP (splitF s)) (h : sumL (ss.map fun s => (s.size : Int) + 1) ≤ 100) : XsOk (treesF ss) := by
  have key : ∀ l : List ByteArray, (∀ s ∈ l, s.size ≤ 256 → CsOk (splitF s)) → (∀ s ∈ l, CsP (splitF s)) → (∀ x ∈ treesF l, allF x = true ∧ deepF x ≤ 16) ∧ sumL ((treesF l).map partsF) ≤ 2 * sumL (l.map fun s => (s.size : Int) + 1) ∧ sumL ((treesF l).map wtF) ≤ 2200 * sumL (l.map fun s => (s.size : Int) + 1) := by
    intro l
    induction l with
    | nil => intro _ _; exact ⟨fun x hx => by simp [treesF] at hx, by simp [treesF, sumL], by simp [treesF, sumL]⟩
    | cons s l ih =>
      intro h1 h2
      obtain ⟨i1, i2, i3⟩ := ih (fun s hs => h1 s (by simp [hs])) (fun s hs => h2 s (by simp [hs]))
      rw [List.map_cons, sumL_cons]
      by_cases hz : (readF s).2 = 0
      · have e : treesF (s :: l) = (readF s).1 :: treesF l := by unfold treesF; simp [hz]
        have hl := read_law (h1 s (by simp)) (h2 s (by simp)) hz
        have a1 := hl.wt; have a2 := hl.parts; have a3 := hl.deep
        rw [e, List.map_cons, List.map_cons, sumL_cons, sumL_cons]
        refine ⟨fun x hx => ?_, by omega, by omega⟩
        rcases List.mem_cons.1 hx with hx | hx
        · subst hx; exact ⟨hl.all, by omega⟩
        · exact i1 x hx
      · have e : treesF (s :: l) = treesF l := by unfold treesF; simp [hz]
        rw [e]
        exact ⟨i1, by omega, by omega⟩
  obtain ⟨a, b, c⟩ := key ss hc hp
  exact ⟨a, by omega, by omega⟩
theorem fields_of {x : Tr} (h : allF x = true) : fieldsF x = true ∧ ∀ y ∈ x.kids, allF y = true := by
  rw [allF_eq, Bool.and_eq_true, List.all_eq_true] at h
  exact ⟨h.2, h.1⟩
theorem kids0 {x : Tr} (h : allF x = true) (hk : x.k = 0) : x.kids.length ≠ 1 ∧ ∀ y ∈ x.kids, allF y = true ∧ y.k ≠ 0 ∧ y.k ≠ 1 := by
  obtain ⟨h1, h2⟩ := fields_of h
  unfold fieldsF at h1
  rw [if_neg (by omega), if_neg (by omega), if_neg (by omega), if_pos hk, someK_two] at h1
  simp only [Bool.and_eq_true, Bool.not_eq_true', decide_eq_false_iff_not, List.any_eq_false, Bool.or_eq_true, decide_eq_true_eq, not_or] at h1
  exact ⟨by omega, fun y hy => ⟨h2 y hy, h1.2 y hy⟩⟩
theorem kids1 {x : Tr} (h : allF x = true) (hk : x.k = 1) : 2 ≤ x.kids.length ∧ ∀ y ∈ x.kids, allF y = true ∧ y.k ≠ 1 := by
  obtain ⟨h1, h2⟩ := fields_of h
  unfold fieldsF at h1
  rw [if_neg (by omega), if_neg (by omega), if_neg (by omega), if_neg (by omega), if_pos hk, someK_one] at h1
  simp only [Bool.and_eq_true, Bool.not_eq_true', decide_eq_true_eq, List.any_eq_false] at h1
  exact ⟨by omega, fun y hy => ⟨h2 y hy, h1.2 y hy⟩⟩
theorem deep_kid {x y : Tr} (h : y ∈ x.kids) : deepF y ≤ deepF x := by
  rw [deepF_eq x]
  have := maxL_mem (List.mem_map.2 ⟨y, h, rfl⟩ : deepF y ∈ x.kids.map deepF)
  split <;> omega
theorem flat_mem {k : Int} {l : List Tr} {y : Tr} (h : y ∈ flatF k l) : ∃ x ∈ l, (x.k = k ∧ y ∈ x.kids) ∨ (x.k ≠ k ∧ y = x) := by
  unfold flatF at h
  obtain ⟨x, hx, hy⟩ := List.mem_flatMap.1 h
  refine ⟨x, hx, ?_⟩
  split at hy
  · rename_i hk; exact .inl ⟨hk, hy⟩
  · rename_i hk; simp at hy; exact .inr ⟨hk, hy⟩
theorem flat_app (k : Int) (l m : List Tr) : flatF k (l ++ m) = flatF k l ++ flatF k m := by simp [flatF]
theorem flat1_ok {l : List Tr} (h : ∀ x ∈ l, allF x = true ∧ deepF x ≤ 16) : ∀ y ∈ flatF 1 l, allF y = true ∧ y.k ≠ 1 ∧ deepF y ≤ 16 := fun y hy => by
  obtain ⟨x, hx, h1 | h1⟩ := flat_mem hy
  · have := (kids1 (h x hx).1 h1.1).2 y h1.2
    exact ⟨this.1, this.2, Int.le_trans (deep_kid h1.2) (h x hx).2⟩
  · obtain ⟨h1, rfl⟩ := h1
    exact ⟨(h y hx).1, h1, (h y hx).2⟩
theorem flat0_ok {l : List Tr} (h : ∀ x ∈ l, allF x = true ∧ deepF x ≤ 16) : ∀ y ∈ flatF 0 l, allF y = true ∧ y.k ≠ 0 ∧ deepF y ≤ 16 ∧ ((∀ x ∈ l, x.k ≠ 1) → y.k ≠ 1) := fun y hy => by
  obtain ⟨x, hx, h1 | h1⟩ := flat_mem hy
  · have := (kids0 (h x hx).1 h1.1).2 y h1.2
    exact ⟨this.1, this.2.1, Int.le_trans (deep_kid h1.2) (h x hx).2, fun _ => this.2.2⟩
  · obtain ⟨h1, rfl⟩ := h1
    exact ⟨(h y hx).1, h1, (h y hx).2, fun h2 => h2 y hx⟩
theorem seq_flat {l : List Tr} (h : ∀ x ∈ l, allF x = true ∧ deepF x ≤ 16) : flatF 0 [seqF l] = flatF 0 l := by
  have h1 := flat0_ok h
  unfold seqF
  revert h1
  match flatF 0 l with
  | [] => intro _; rfl
  | [x] => intro h1; unfold flatF; simp [(h1 x (by simp)).2.1]
  | x :: y :: m => intro _; unfold flatF; simp [mkT]
theorem alt_flat {l : List Tr} (h : ∀ x ∈ l, allF x = true ∧ deepF x ≤ 16) (hne : l ≠ []) : flatF 1 [altF l] = flatF 1 l := by
  have h1 := flat1_ok h
  have h2 : flatF 1 l ≠ [] := fun e => by
    obtain ⟨x, m, rfl⟩ := List.exists_cons_of_ne_nil hne
    unfold flatF at e
    rw [List.flatMap_cons] at e
    have e1 := (List.append_eq_nil_iff.1 e).1
    split at e1
    · rename_i hk
      have := (kids1 (h x (by simp)).1 hk).1
      rw [e1] at this; simp at this
    · cases e1
  unfold altF
  revert h1 h2
  match flatF 1 l with
  | [] => intro _ h2; exact absurd rfl h2
  | [x] => intro h1 _; unfold flatF; simp [(h1 x (by simp)).2.1]
  | x :: y :: m => intro _ _; unfold flatF; simp [mkT]
theorem seq_twice {l m : List Tr} (h : ∀ x ∈ l ++ m, allF x = true ∧ deepF x ≤ 16) : seqF [seqF l, seqF m] = seqF (l ++ m) := by
  have e : flatF 0 [seqF l, seqF m] = flatF 0 (l ++ m) := by
    rw [show [seqF l, seqF m] = [seqF l] ++ [seqF m] from rfl, flat_app, flat_app, seq_flat fun x hx => h x (by simp [hx]), seq_flat fun x hx => h x (by simp [hx])]
  unfold seqF at e ⊢
  rw [e]
theorem alt_twice {l m : List Tr} (h : ∀ x ∈ l ++ m, allF x = true ∧ deepF x ≤ 16) (hl : l ≠ []) (hm : m ≠ []) : altF [altF l, altF m] = altF (l ++ m) := by
  have e : flatF 1 [altF l, altF m] = flatF 1 (l ++ m) := by
    rw [show [altF l, altF m] = [altF l] ++ [altF m] from rfl, flat_app, flat_app, alt_flat (fun x hx => h x (by simp [hx])) hl, alt_flat (fun x hx => h x (by simp [hx])) hm]
  unfold altF at e ⊢
  rw [e]
theorem groups_mk (k : Int) (ks : List Tr) (hk : k ≠ 5) : groupsF (mkT k ks) = sumL (ks.map groupsF) := by
  rw [groupsF_eq]
  have : ¬ (mkT k ks).k = 5 := hk
  rw [if_neg this]; show 0 + sumL (ks.map groupsF) = _; omega
theorem flat_groups (k : Int) (hk : k = 0 ∨ k = 1) (l : List Tr) : sumL ((flatF k l).map groupsF) = sumL (l.map groupsF) := by
  induction l using snoc_ind with
  | h0 => rfl
  | h1 l x ih =>
    rw [flatF_snoc, List.map_append, List.map_append, sumL_app, List.map_cons, List.map_nil, sumL_snoc, ih]
    split
    · rename_i hx
      rw [groupsF_eq x, if_neg (by omega)]; omega
    · rw [List.map_cons, List.map_nil, sumL_cons, sumL_nil]; omega
theorem maxL_app (xs ys : List Int) : maxL (xs ++ ys) = max (maxL xs) (maxL ys) := by
  induction ys using snoc_ind with
  | h0 => have := maxL_pos xs; simp [maxL] at this ⊢; omega
  | h1 ys y ih => rw [← List.append_assoc, maxL_snoc, ih, maxL_snoc]; omega
theorem flat_deep (k : Int) (hk : k = 0 ∨ k = 1) (l : List Tr) : maxL ((flatF k l).map deepF) = maxL (l.map deepF) := by
  induction l using snoc_ind with
  | h0 => rfl
  | h1 l x ih =>
    rw [flatF_snoc, List.map_append, List.map_append, maxL_app, List.map_cons, List.map_nil, maxL_snoc, ih]
    split
    · rename_i hx
      rw [deepF_eq x]
      have : grpB x = false := by unfold grpB; rcases hk with rfl | rfl <;> simp [hx]
      rw [this]; simp
    · have := (deepF_bound x).1
      simp [maxL]; omega
theorem seq_groups (l : List Tr) : groupsF (seqF l) = sumL (l.map groupsF) ∧ deepF (seqF l) = maxL (l.map deepF) := by
  rw [← flat_groups 0 (.inl rfl) l, ← flat_deep 0 (.inl rfl) l]
  unfold seqF
  match flatF 0 l with
  | [] => exact ⟨groups_mk _ _ (by decide), deep_mk _ _ (.inl rfl)⟩
  | [x] => have := (deepF_bound x).1; exact ⟨by simp [sumL], by simp [maxL]; omega⟩
  | x :: y :: m => exact ⟨groups_mk _ _ (by decide), deep_mk _ _ (.inl rfl)⟩
theorem alt_groups (l : List Tr) : groupsF (altF l) = sumL (l.map groupsF) ∧ deepF (altF l) = maxL (l.map deepF) := by
  rw [← flat_groups 1 (.inr rfl) l, ← flat_deep 1 (.inr rfl) l]
  unfold altF
  match flatF 1 l with
  | [] => exact ⟨groups_mk _ _ (by decide), deep_mk _ _ (.inl rfl)⟩
  | [x] => have := (deepF_bound x).1; exact ⟨by simp [sumL], by simp [maxL]; omega⟩
  | x :: y :: m => exact ⟨groups_mk _ _ (by decide), deep_mk _ _ (.inr rfl)⟩
end B
end Go.Proofs.Ytocmchlhbniloaa
namespace Go.Proofs.Ytocmchlhbniloaa
namespace B
open Go.RowKit
open Srt
set_option maxRecDepth 100000 in
theorem trees_c (v : Value) (ss : List ByteArray) (w : World) (hS : SlT StrE w v ss) (hb : ss.length ≤ 1000) : Calls Try.prog 18 #[v] w (fun e w' => ∃ v' ts, e = .returned v' ∧ Ext none' w w' ∧ NewT TrE 25 w w' v' ts ∧ (∀ t ∈ ts, TrT (fun g => (Gn none' w) g ∧ v'.ownBlock ≠ some g) w' t) ∧ ts.map er = treesF ss) := by
 refine enter (n := 28) Try.func18 rfl rfl (Nat.le_of_ble_eq_true rfl) ?_
 intro a0 τ0 ha st0
 have e0 : get a0 0 = v := ha 0 _ rfl
 clear ha
 have hle := hS.le
 refine wp_seq ?_
 refine region_St (bf := [0]) (sp := [det _ 2 _]) [] mixed st0 (by kernel_rfl) trivial
  ⟨Ob.d fun c => r_assign rfl rfl, trivial⟩ ?_
 intro a1 w1 τ1 st1 f1
 obtain ⟨e0, -⟩ := f1.ks [(0, _)] ⟨e0, trivial⟩
 have e2 : get a1 2 = (.slice none 0 0) := f1.v 0 rfl
 clear f1
 show Code.wp _ _ _ a1 w1
 refine wp_seq ?_
 refine region_St (bf := [0]) (sp := [det _ 3 _]) [] mixed st1 (by kernel_rfl) trivial
  ⟨Ob.d fun c => r_assign rfl rfl, trivial⟩ ?_
 intro a2 w2 τ2 st2 f2
 obtain ⟨e0, e2, -⟩ := f2.ks [(0, _), (2, _)] ⟨e0, e2, trivial⟩
 have e3 : get a2 3 = (.slice none 0 0) := f2.v 0 rfl
 clear f2
 show Code.wp _ _ _ a2 w2
 refine wp_seq ?_
 refine wp_seq ?_
 refine region_St (bf := [0]) (sp := [det _ 4 _]) [] mixed st2 (by kernel_rfl) trivial
  ⟨Ob.d fun c => r_assign rfl rfl, trivial⟩ ?_
 intro a3 w3 τ3 st3 f3
 obtain ⟨e0, e2, e3, -⟩ := f3.ks [(0, _), (2, _), (3, _)] ⟨e0, e2, e3, trivial⟩
 have e4 : get a3 4 = (.int .i64 (0)) := f3.v 0 rfl
 clear f3
 show Code.wp _ _ _ a3 w3
 refine wp_block ?_
 refine wp_loop (fun a_ w_ => ∃ (k : Nat) (u : Value) (ts : List Tr) (τ : Nat → Foot), (k ≤ ss.length) ∧
      (ts.length ≤ k) ∧
      (ts.map er = treesF (ss.take k)) ∧
      St (Nw w) w 28 a_ w_ τ ∧
      get a_ 3 = u ∧
      get a_ 4 = (.int .i64 ((k : Int))) ∧
      get a_ 0 = v ∧
      get a_ 2 = (.slice none 0 0) ∧
      ownR TrE 25 (ts) (τ 5) u w_ ∧
      Fz (zTl (Gn none' w) ts) τ w_) (fun a_ _ => ss.length - (intOf (get a_ 4)).toNat) ?_ ?_
 · refine ⟨0, (.slice none 0 0), [], τ3, ?_, ?_, ?_, st3, e3, (e4.trans (int_eq (by omega))), e0, e2, ?_, ?_⟩
   · omega
   · simp
   · rfl
   · exact ownR.nil _ _ _ _
   · exact Fz.tn _ _ _
 intro a4 w4 hI
 obtain ⟨k, u, ts, τ4, q0, q1, q2, st4, e3, e4, e0, e2, r5, r6⟩ := hI
 have m4 := e4
 refine wp_seq ?_
 refine wp_seq ?_
 refine region_St (bf := [0, 0, 2, 7]) (sp := [det _ 7 _, det _ 8 _, det _ 9 _, det _ 10 _]) [Ini.any _, Ini.any _, Ini.any _, Ini.any _, Ini.any _, io r5, iz r6] mixed st4 (by kernel_rfl) ⟨trivial, trivial, trivial, trivial, trivial, r5, r6, trivial⟩
  ⟨Ob.d fun c => r_move rfl (c.p e4),
  Ob.d fun c => r_move rfl (c.p e0),
  Ob.d fun c => r_len rfl Try.underlying32 (c.n 1 rfl) hS.sl,
  Ob.d fun c => r_lss rfl (c.n 0 rfl) (c.n 2 rfl), trivial⟩ ?_
 intro a5 w5 τ5 st5 f5
 obtain ⟨e0, e2, e3, e4, -⟩ := f5.ks [(0, _), (2, _), (3, _), (4, _)] ⟨e0, e2, e3, e4, trivial⟩
 have e10 : get a5 10 = (.bool (decide ((k : Int) < (ss.length : Int)))) := f5.v 3 rfl
 replace r5 := f5.io 5 rfl
 replace r6 := f5.iz 6 rfl
 clear f5
 show Code.wp _ _ _ a5 w5
 refine wp_cond_split (t := decide ((k : Int) < (ss.length : Int))) e10 (fun hc1 => ?_) (fun hc1 => ?_)
 · try simp only [decide_eq_true_eq] at hc1
   refine wp_skip ?_
   show Code.wp _ _ _ a5 w5
   refine wp_seq ?_
   refine wp_block ?_
   refine wp_seq ?_
   refine region_of_ops ?_
   refine ops_cut 5 (by kernel_rfl) ?_
   refine ops_St (bf := [0, 0, 3, 7, 15]) (sp := [det _ 14 _, det _ 15 _, det _ 16 _, det _ 17 _, zdet _ 18 (fun b : Tr => .tuple #[b.v, .int .i64 (readF (nth ss ((k : Int)))).2]) (fun b : Tr => er b = (readF (nth ss ((k : Int)))).1) (fun b : Tr => zTr (Gn none' w) b)]) [Ini.any _, Ini.any _, Ini.any _, Ini.any _, Ini.any _, io r5, iz r6] st5 (by kernel_rfl) ⟨trivial, trivial, trivial, trivial, trivial, r5, r6, trivial⟩
    ⟨Ob.d fun c => r_move rfl (c.p e0),
    Ob.d fun c => r_move rfl (c.p e4),
    Ob.d fun c => r_indexAddr rfl Try.underlying32 Try.sizeOf9 (c.n 0 rfl) hS.sl (c.n 1 rfl) (by omega) (by omega),
    Ob.d fun c => r_load1 rfl Try.isAgg9 (c.n 2 rfl) (((hS.at (st5.ext.trans c.J.ext))).elem (j := 0) (nth_some (i := (k : Int)) (by omega) (by omega)) rfl),
    Ob.zc (f := fun b : Tr => .tuple #[b.v, .int .i64 (readF (nth ss ((k : Int)))).2]) (Ψ := fun b : Tr => er b = (readF (nth ss ((k : Int)))).1) (Φ := fun b : Tr => zTr (Gn none' w) b) fun {_ a_ _ _} c => ⟨_, _, (e_call1 rfl rfl Try.call33 (c.n 3 rfl)), (read_c (nth ss ((k : Int))) _).mono (fun e w' ⟨t_, he_, hx_, ht_, hq_⟩ => ⟨t_, he_, hx_, hq_, c.tn st5 hx_ ht_⟩)⟩, trivial⟩ ?_
   intro a6 w6 τ6 st6 f6
   obtain ⟨e0, e2, e3, e4, e10, -⟩ := f6.ks [(0, _), (2, _), (3, _), (4, _), (10, _)] ⟨e0, e2, e3, e4, e10, trivial⟩
   obtain ⟨t1_, e18, hqt1_, hz6⟩ := f6.zd 4 rfl
   have e18 : get a6 18 = (.tuple #[(.agg #[(.int .i64 (t1_.k)), (.string (t1_.ch)), (.bool (t1_.ng)), t1_.rv.v, (.int .i64 (t1_.mn)), (.int .i64 (t1_.mx)), (.bool (t1_.lz)), t1_.kv.v]), (.int .i64 ((readF (nth ss ((k : Int)))).2))]) := e18
   replace r5 := f6.io 5 rfl
   replace r6 := f6.iz 6 rfl
   have r0 : Fz (zTr (Gn none' w) t1_) τ6 w6 := hz6
   clear f6
   refine only_mk ?_
   refine ops_St (bf := [0, 1, 3, 7, 15, 31]) (sp := [det _ 13 _, det _ 19 _, det _ 20 _, box _ _ 1 5 [(.int .i64 (0)), (.string ((⟨#[]⟩ : ByteArray))), (.bool (false)), (.slice none 0 0), (.int .i64 (0)), (.int .i64 (0)), (.bool (false)), (.slice none 0 0)], box _ _ 1 5 [(.int .i64 (t1_.k)), (.string (t1_.ch)), (.bool (t1_.ng)), t1_.rv.v, (.int .i64 (t1_.mn)), (.int .i64 (t1_.mx)), (.bool (t1_.lz)), t1_.kv.v], det _ 6 _]) [iz r0, Ini.any _, Ini.any _, Ini.any _, Ini.any _, io r5, iz r6] st6 (by kernel_rfl) ⟨r0, trivial, trivial, trivial, trivial, r5, r6, trivial⟩
    ⟨Ob.d fun c => r_move rfl (c.p e18),
    Ob.d fun c => r_extract rfl (c.n 0 rfl) rfl,
    Ob.d fun c => r_extract rfl (c.n 0 rfl) rfl,
    Ob.alloc rfl rfl rfl rfl Try.zeroValue25 rfl,
    Ob.storeBox (off := 0) (v := (.agg #[(.int .i64 (t1_.k)), (.string (t1_.ch)), (.bool (t1_.ng)), t1_.rv.v, (.int .i64 (t1_.mn)), (.int .i64 (t1_.mx)), (.bool (t1_.lz)), t1_.kv.v])) rfl rfl rfl rfl Try.sizeOf25 (Nat.le_of_ble_eq_true rfl) (by simp [Value.cells, Value.oneCell', Sv.v]) rfl (fun _ _ _ _ c => ⟨c.rb 3 rfl, (c.rb 3 rfl).ptr, (c.n 1 rfl)⟩),
    Ob.d fun c => r_assign rfl (c.n 2 rfl), trivial⟩ ?_
   intro a7 w7 τ7 st7 f7
   obtain ⟨b7x5, e5⟩ : ∃ b, get a7 5 = b := ⟨_, rfl⟩
   obtain ⟨e0, e2, e3, e4, e10, -⟩ := f7.ks [(0, _), (2, _), (3, _), (4, _), (10, _)] ⟨e0, e2, e3, e4, e10, trivial⟩
   have e6 : get a7 6 = (.int .i64 ((readF (nth ss ((k : Int)))).2)) := f7.v 5 rfl
   replace r0 := f7.iz 0 rfl
   have r1 : boxR 25 [(.int .i64 (t1_.k)), (.string (t1_.ch)), (.bool (t1_.ng)), t1_.rv.v, (.int .i64 (t1_.mn)), (.int .i64 (t1_.mx)), (.bool (t1_.lz)), t1_.kv.v] (τ7 1) b7x5 w7 := f7.rb 4 e5 rfl
   replace r5 := f7.io 5 rfl
   replace r6 := f7.iz 6 rfl
   clear f7
   show Code.wp _ _ _ a7 w7
   refine wp_seq ?_
   refine region_St (bf := [0, 1]) (sp := [det _ 21 _, det _ 22 _]) [iz r0, ib r1, Ini.any _, Ini.any _, Ini.any _, io r5, iz r6] mixed st7 (by kernel_rfl) ⟨r0, r1, trivial, trivial, trivial, r5, r6, trivial⟩
    ⟨Ob.d fun c => r_move rfl (c.p e6),
    Ob.d fun c => r_eql rfl (c.n 0 rfl) rfl, trivial⟩ ?_
   intro a8 w8 τ8 st8 f8
   obtain ⟨e0, e2, e3, e4, e5, e6, e10, -⟩ := f8.ks [(0, _), (2, _), (3, _), (4, _), (5, _), (6, _), (10, _)] ⟨e0, e2, e3, e4, e5, e6, e10, trivial⟩
   have e22 : get a8 22 = (.bool (decide ((readF (nth ss ((k : Int)))).2 = 0))) := f8.v 1 rfl
   replace r0 := f8.iz 0 rfl
   replace r1 := f8.ib 1 rfl
   replace r5 := f8.io 5 rfl
   replace r6 := f8.iz 6 rfl
   clear f8
   show Code.wp _ _ _ a8 w8
   refine wp_cond_split (t := decide ((readF (nth ss ((k : Int)))).2 = 0)) e22 (fun hc2 => ?_) (fun hc2 => ?_)
   · try simp only [decide_eq_true_eq] at hc2
     refine region_St (bf := [0, 0, 2, 7, 15]) (sp := [det _ 23 _, det _ 24 _, own TrE 25 _ 2 25 ([t1_]), own _ _ _ 5 26 _, own _ _ _ 5 3 _]) [iz r0, ib r1, Ini.any _, Ini.any _, Ini.any _, io r5, iz r6] mixed st8 (by kernel_rfl) ⟨r0, r1, trivial, trivial, trivial, r5, r6, trivial⟩
      ⟨Ob.d fun c => r_move rfl (c.p e3),
      Ob.d fun c => r_loadN (vs := [(.int .i64 (t1_.k)), (.string (t1_.ch)), (.bool (t1_.ng)), t1_.rv.v, (.int .i64 (t1_.mn)), (.int .i64 (t1_.mx)), (.bool (t1_.lz)), t1_.kv.v]) rfl Try.isAgg25 Try.sizeOf25 ((c.p e5).trans r1.ptr) rfl (fun _ _ hj => (c.ib 1 rfl).cell hj),
      Ob.buildSlice (cells := #[(.int .i64 (t1_.k)), (.string (t1_.ch)), (.bool (t1_.ng)), t1_.rv.v, (.int .i64 (t1_.mn)), (.int .i64 (t1_.mx)), (.bool (t1_.lz)), t1_.kv.v]) rfl rfl rfl rfl Try.underlying23 Try.sizeOf25 Try.zeroValue25 rfl (by decide) (by decide) (fun _ _ _ _ c => fill1 (c.n 1 rfl) (by kernel_rfl)) rfl,
      Ob.append (t0 := 3) rfl rfl rfl rfl Try.underlying23 (i := Try.t25) rfl rfl rfl rfl (by simp only [maxLen]; (try simp); omega) (by show _ * 104 ≤ _; (try simp); omega) (fun _ _ _ _ c => ⟨c.ip 5 rfl e3, c.sm (c.n 0 rfl) e3, ⟨_, rfl, (c.ro 2 rfl).1.sl⟩⟩),
      Ob.moveT (t0 := 26) rfl rfl rfl rfl rfl (.inr rfl) (fun _ _ _ _ c => ⟨c.ro 3 rfl, rfl⟩), trivial⟩ ?_
     intro a9 w9 τ9 st9 f9
     obtain ⟨b9x25, e25⟩ : ∃ b, get a9 25 = b := ⟨_, rfl⟩
     obtain ⟨b9x3, e3⟩ : ∃ b, get a9 3 = b := ⟨_, rfl⟩
     obtain ⟨e0, e2, e4, e5, e6, e10, e22, -⟩ := f9.ks [(0, _), (2, _), (4, _), (5, _), (6, _), (10, _), (22, _)] ⟨e0, e2, e4, e5, e6, e10, e22, trivial⟩
     replace r0 := f9.iz 0 rfl
     replace r1 := f9.ib 1 rfl
     have r2 : ownR TrE 25 ([t1_]) (τ9 2) b9x25 w9 := f9.ro 2 e25 rfl
     replace r5 : ownR TrE 25 (ts ++ [t1_]) (τ9 5) b9x3 w9 := f9.ro 4 e3 rfl
     replace r6 := f9.iz 6 rfl
     clear f9
     show _
     show Code.wp _ _ _ a9 w9
     refine region_St (bf := [0, 1, 3]) (sp := [det _ 11 _, det _ 12 _, det _ 4 _]) [iz r0, ib r1, io r2, Ini.any _, Ini.any _, io r5, iz r6] mixed st9 (by kernel_rfl) ⟨r0, r1, r2, trivial, trivial, r5, r6, trivial⟩
      ⟨Ob.d fun c => r_move rfl (c.p e4),
      Ob.d fun c => r_add rfl (c.n 0 rfl) rfl (by omega),
      Ob.d fun c => r_assign rfl (c.n 1 rfl), trivial⟩ ?_
     intro a10 w10 τ10 st10 f10
     obtain ⟨e0, e2, e3, e5, e6, e10, e22, -⟩ := f10.ks [(0, _), (2, _), (3, _), (5, _), (6, _), (10, _), (22, _)] ⟨e0, e2, e3, e5, e6, e10, e22, trivial⟩
     have e4 : get a10 4 = (.int .i64 ((k : Int) + 1)) := f10.v 2 rfl
     replace r0 := f10.iz 0 rfl
     replace r1 := f10.ib 1 rfl
     replace r2 := f10.io 2 rfl
     replace r5 := f10.io 5 rfl
     replace r6 := f10.iz 6 rfl
     clear f10
     refine ⟨⟨k + 1, b9x3, ts ++ [t1_], τ10, ?_, ?_, ?_, st10, e3, (e4.trans (int_eq (by omega))), e0, e2, ?_, ?_⟩, ?_⟩
     · omega
     · (try simp); omega
     · first | (rw [ers_snoc, q2, hqt1_, ← trees_hit (by omega) (by assumption)]) | (rw [trees_miss (by omega) (by assumption)]; exact q2)
     · exact r5.cast (by rfl)
     · exact Fz.snoc r6 r0
     · simp only [m4, e4, intOf]; omega
   try simp only [decide_eq_false_iff_not] at hc2
   refine wp_skip ?_
   show _
   show Code.wp _ _ _ a8 w8
   refine region_St (bf := [0, 1, 3]) (sp := [det _ 11 _, det _ 12 _, det _ 4 _]) [iz r0, ib r1, Ini.any _, Ini.any _, Ini.any _, io r5, iz r6] mixed st8 (by kernel_rfl) ⟨r0, r1, trivial, trivial, trivial, r5, r6, trivial⟩
    ⟨Ob.d fun c => r_move rfl (c.p e4),
    Ob.d fun c => r_add rfl (c.n 0 rfl) rfl (by omega),
    Ob.d fun c => r_assign rfl (c.n 1 rfl), trivial⟩ ?_
   intro a11 w11 τ11 st11 f11
   obtain ⟨e0, e2, e3, e5, e6, e10, e22, -⟩ := f11.ks [(0, _), (2, _), (3, _), (5, _), (6, _), (10, _), (22, _)] ⟨e0, e2, e3, e5, e6, e10, e22, trivial⟩
   have e4 : get a11 4 = (.int .i64 ((k : Int) + 1)) := f11.v 2 rfl
   replace r0 := f11.iz 0 rfl
   replace r1 := f11.ib 1 rfl
   replace r5 := f11.io 5 rfl
   replace r6 := f11.iz 6 rfl
   clear f11
   refine ⟨⟨k + 1, u, ts, τ11, ?_, ?_, ?_, st11, e3, (e4.trans (int_eq (by omega))), e0, e2, ?_, ?_⟩, ?_⟩
   · omega
   · (try simp); omega
   · first | (rw [ers_snoc, q2, hqt1_, ← trees_hit (by omega) (by assumption)]) | (rw [trees_miss (by omega) (by assumption)]; exact q2)
   · exact r5.cast (by rfl)
   · exact r6
   · simp only [m4, e4, intOf]; omega
 try simp only [decide_eq_false_iff_not, Int.not_lt] at hc1
 refine wp_exit ?_
 repeat (with_reducible refine then_exit ?_)
 refine exit_here ?_
 show Code.wp _ _ _ a5 w5
 refine wp_seq ?_
 refine region_St (bf := [0, 1]) (sp := [det _ 27 _, det _ 2 _]) [Ini.any _, Ini.any _, Ini.any _, Ini.any _, Ini.any _, io r5, iz r6] mixed st5 (by kernel_rfl) ⟨trivial, trivial, trivial, trivial, trivial, r5, r6, trivial⟩
  ⟨Ob.d fun c => r_move rfl (c.p e3),
  Ob.d fun c => r_assign rfl (c.n 0 rfl), trivial⟩ ?_
 intro a12 w12 τ12 st12 f12
 have e2 : get a12 2 = u := f12.v 1 rfl
 replace r5 := f12.io 5 rfl
 replace r6 := f12.iz 6 rfl
 clear f12
 show Code.wp _ _ _ a12 w12
 refine wp_ret ?_
 repeat (first | with_reducible refine then_ret ?_ | with_reducible refine block_ret ?_)
 refine ret1 (fn := Try.f18) rfl st12.defers e2 ?_
 rw [List.take_of_length_le (by omega)] at q2
 exact ⟨_, ts, rfl, st12.ext0, ⟨r5.1, fun g_ h_ => (st12.bnd _ g_ (r5.2 g_ h_)).1⟩, r6.outo (i := 5) r5.2, q2⟩
end B
end Go.Proofs.Ytocmchlhbniloaa
namespace Go.Proofs.Ytocmchlhbniloaa
namespace B
open Go.RowKit
open Srt
theorem sub_wt (l : List Tr) (a b : Nat) : sumL (((l.drop a).take b).map wtF) ≤ sumL (l.map wtF) := by
  have h1 := (sum_le (f := wtF) (ts := l.drop a) (fun t _ => by have := wtF_pos t; omega) b).2
  have h2 : sumL ((l.drop a).map wtF) ≤ sumL (l.map wtF) := by
    have h3 := sumL_app ((l.take a).map wtF) ((l.drop a).map wtF)
    rw [← List.map_append, List.take_append_drop] at h3
    have := wts_pos (l.take a)
    omega
  omega
theorem sameF_erl (a b : Tr) : sameF (er a) b = sameF a b := by
  rw [Bool.eq_iff_iff, sameF_iff, sameF_iff, er_er]
theorem flat_er (k : Int) (l : List Tr) : (flatF k (l.map er)).map er = flatF k (l.map er) := by
  induction l using snoc_ind with
  | h0 => rfl
  | h1 l x ih =>
    rw [List.map_append, List.map_cons, List.map_nil, flatF_snoc, List.map_append, ih]
    congr 1
    split
    · rw [er_kids, List.map_map]; exact List.map_congr_left fun t _ => er_er t
    · simp [er_er]
theorem er_mkT (k : Int) (ks : List Tr) : er (mkT k ks) = mkT k (ks.map er) := by rw [er_eq]; rfl
theorem er_seqF (l : List Tr) : er (seqF (l.map er)) = seqF (l.map er) := by
  have h := flat_er 0 l
  unfold seqF
  revert h
  match flatF 0 (l.map er) with
  | [] => intro _; rfl
  | [x] => intro h; simpa using h
  | x :: y :: m => intro h; show er (mkT 0 _) = mkT 0 _; rw [er_mkT, h]
theorem er_altF (l : List Tr) : er (altF (l.map er)) = altF (l.map er) := by
  have h := flat_er 1 l
  unfold altF
  revert h
  match flatF 1 (l.map er) with
  | [] => intro _; rfl
  | [x] => intro h; simpa using h
  | x :: y :: m => intro h; show er (mkT 1 _) = mkT 1 _; rw [er_mkT, h]
theorem cut_app {l : List Tr} {k : Nat} (h : k ≤ l.length) : ((l.drop 0).take (k - 0)).map er ++ ((l.drop k).take (l.length - k)).map er = l.map er := by
  rw [← List.map_append]
  congr 1
  rw [List.take_of_length_le (l := l.drop k) (by simp), List.drop_zero, Nat.sub_zero, List.take_append_drop]
theorem twice_seq {l : List Tr} {k : Nat} (hk : k ≤ l.length) (h : XsOk (l.map er)) : seqF (([seqF (((l.drop 0).take (k - 0)).map er), seqF (((l.drop k).take (l.length - k)).map er)]).map er) = seqF (l.map er) := by
  rw [List.map_cons, List.map_cons, List.map_nil, er_seqF, er_seqF, seq_twice (by rw [cut_app hk]; exact h.all), cut_app hk]
theorem twice_alt {l : List Tr} {k : Nat} (h0 : 0 < k) (hk : k < l.length) (h : XsOk (l.map er)) : altF (([altF (((l.drop 0).take (k - 0)).map er), altF (((l.drop k).take (l.length - k)).map er)]).map er) = altF (l.map er) := by
  have n1 : ((l.drop 0).take (k - 0)).map er ≠ [] := fun e => by have := congrArg List.length e; rw [List.length_map, List.length_take, List.length_drop, List.length_nil] at this; omega
  have n2 : ((l.drop k).take (l.length - k)).map er ≠ [] := fun e => by have := congrArg List.length e; rw [List.length_map, List.length_take, List.length_drop, List.length_nil] at this; omega
  rw [List.map_cons, List.map_cons, List.map_nil, er_altF, er_altF, alt_twice (by rw [cut_app (by omega)]; exact h.all) n1 n2, cut_app (by omega)]
theorem groups_map (l : List Tr) : (l.map er).map groupsF = l.map groupsF := by
  rw [List.map_map]; exact List.map_congr_left fun t _ => groupsF_er t
theorem deeps_map (l : List Tr) : (l.map er).map deepF = l.map deepF := by
  rw [List.map_map]; exact List.map_congr_left fun t _ => deepF_er t
theorem groups_sum (l : List Tr) : 0 ≤ sumL (l.map groupsF) ∧ sumL (l.map groupsF) ≤ sumL (l.map partsF) := by
  induction l using snoc_ind with
  | h0 => exact ⟨Int.le_refl _, Int.le_refl _⟩
  | h1 l x ih =>
    rw [List.map_append, List.map_append, List.map_cons, List.map_nil, List.map_cons, List.map_nil, sumL_snoc, sumL_snoc]
    have := groupsF_bound x
    omega
set_option maxRecDepth 100000 in
set_option maxHeartbeats 4000000 in
theorem seqTwice_c (v : Value) (ss : List ByteArray) (y : Int) (w : World) (hS : SlT StrE w v ss) : Calls Try.prog 8 #[v, (.int .i64 (y))] w (fun e w' => e = .returned (.bool (true)) ∧ Ext none' w w') := by
 refine enter (n := 112) Try.func8 rfl rfl (Nat.le_of_ble_eq_true rfl) ?_
 intro a0 τ0 ha st0
 have e0 : get a0 0 = v := ha 0 _ rfl
 have e1 : get a0 1 = (.int .i64 (y)) := ha 1 _ rfl
 clear ha
 have hle := hS.le
 refine wp_seq ?_
 refine region_St (bf := [0]) (sp := [det _ 4 _]) [] mixed st0 (by kernel_rfl) trivial
  ⟨Ob.d fun c => r_assign rfl rfl, trivial⟩ ?_
 intro a1 w1 τ1 st1 f1
 obtain ⟨e0, e1, -⟩ := f1.ks [(0, _), (1, _)] ⟨e0, e1, trivial⟩
 have e4 : get a1 4 = (.bool (false)) := f1.v 0 rfl
 clear f1
 show Code.wp _ _ _ a1 w1
 refine wp_seq ?_
 refine wp_seq ?_
 refine region_St (bf := [0, 1, 3, 7, 15, 31, 63]) (sp := [det _ 12 _, det _ 13 _, det _ 14 _, det _ 15 _, gdet _ 16 _ _, gdet _ 17 _ _, det _ 18 _]) [] mixed st1 (by kernel_rfl) trivial
  ⟨Ob.d fun c => r_move rfl (c.p e0),
  Ob.d fun c => r_len rfl Try.underlying32 (c.n 0 rfl) hS.sl,
  Ob.d fun c => r_gtr rfl (c.n 1 rfl) rfl,
  Ob.d fun c => r_move rfl (c.n 2 rfl),
  Ob.g 3 false rfl fun c hpc => r_move rfl (c.p e0),
  Ob.gc 3 false rfl fun c hpc => ⟨_, _, (e_call2 rfl rfl Try.call17 rfl (c.m 4 rfl hpc)), long_c 100 v ss _ (hS.at (st1.ext.trans c.J.ext)) (by have hq0 := bn hpc; first | omega | (dsimp only at *; simp only [List.map_cons, List.map_nil, sumL_cons, sumL_nil]; omega))⟩,
  Ob.d fun c => r_or rfl (c.n 3 rfl) (fun h => c.m 5 rfl h), trivial⟩ ?_
 intro a2 w2 τ2 st2 f2
 obtain ⟨e0, e1, e4, -⟩ := f2.ks [(0, _), (1, _), (4, _)] ⟨e0, e1, e4, trivial⟩
 have e18 : get a2 18 = (.bool ((decide (8 < (ss.length : Int))) || (longL 100 ss))) := f2.v 6 rfl
 clear f2
 show Code.wp _ _ _ a2 w2
 refine wp_cond_split (t := (decide (8 < (ss.length : Int))) || (longL 100 ss)) e18 (fun hc1 => ?_) (fun hc1 => ?_)
 · have hd1 := hc1; try simp only [Bool.or_eq_true, decide_eq_true_eq] at hd1
   refine wp_seq ?_
   refine region_St (bf := [0, 1]) (sp := [det _ 19 _, det _ 4 _]) [] mixed st2 (by kernel_rfl) trivial
    ⟨Ob.c fun c => ⟨_, _, (e_call0 rfl rfl Try.call10), awake_c _⟩,
    Ob.d fun c => r_assign rfl (c.n 0 rfl), trivial⟩ ?_
   intro a3 w3 τ3 st3 f3
   obtain ⟨e0, e1, -⟩ := f3.ks [(0, _), (1, _)] ⟨e0, e1, trivial⟩
   have e4 : get a3 4 = (.bool (true)) := f3.v 1 rfl
   clear f3
   show Code.wp _ _ _ a3 w3
   refine wp_ret ?_
   repeat (first | with_reducible refine then_ret ?_ | with_reducible refine block_ret ?_)
   refine ret1 (fn := Try.f8) rfl st3.defers e4 ?_
   exact ⟨rfl, st3.ext0⟩
 have hd1 := hc1; try simp only [Bool.or_eq_false_iff, decide_eq_false_iff_not, Int.not_lt] at hd1
 refine wp_skip ?_
 show Code.wp _ _ _ a2 w2
 refine wp_seq ?_
 obtain ⟨hl8, hlong⟩ := (by simpa using hc1 : (ss.length : Int) ≤ 8 ∧ longL 100 ss = false)
 refine region_of_ops ?_
 refine ops_cut 2 (by kernel_rfl) ?_
 refine ops_St (bf := [0, 1]) (sp := [det _ 20 _, zown TrE 25 _ 0 21 (fun b : List Tr => b) (fun b : List Tr => b.map er = treesF ss) (fun b : List Tr => zTl (Gn none' w) b)]) [] st2 (by kernel_rfl) trivial
  ⟨Ob.d fun c => r_move rfl (c.p e0),
  Ob.zo (xs := fun b : List Tr => b) (Ψ := fun b : List Tr => b.map er = treesF ss) (Φ := fun b : List Tr => zTl (Gn none' w) b) fun {_ a_ _ _} c => ⟨_, _, (e_call1 rfl rfl Try.call18 (c.n 0 rfl)), (trees_c v ss _ (hS.at (st2.ext.trans c.J.ext)) (by first | omega | (dsimp only at *; simp only [List.map_cons, List.map_nil, sumL_cons, sumL_nil]; omega))).mono (fun e w' ⟨v_, ts_, he_, hx_, ho_, ht_, hq_⟩ => ⟨v_, ts_, he_, hx_, ho_, hq_, c.tno (tag := 0) st2 hx_ ho_ ht_⟩)⟩, trivial⟩ ?_
 intro a4 w4 τ4 st4 f4
 obtain ⟨b4x21, e21⟩ : ∃ b, get a4 21 = b := ⟨_, rfl⟩
 obtain ⟨e1, e4, -⟩ := f4.ks [(1, _), (4, _)] ⟨e1, e4, trivial⟩
 obtain ⟨ts1_, hro4, hqts1_, hz4⟩ := f4.zo 1 e21 rfl
 have r0 : ownR TrE 25 (ts1_) (τ4 0) b4x21 w4 := hro4
 have r1 : Fz (zTl (Gn none' w) ts1_) τ4 w4 := hz4
 clear f4
 refine only_mk ?_
 refine ops_St (bf := [0]) (sp := [det _ 5 _]) [io r0, iz r1] st4 (by kernel_rfl) ⟨r0, r1, trivial⟩
  ⟨Ob.d fun c => r_assign rfl (c.p e21), trivial⟩ ?_
 intro a5 w5 τ5 st5 f5
 obtain ⟨e1, e4, -⟩ := f5.ks [(1, _), (4, _)] ⟨e1, e4, trivial⟩
 have e5 : get a5 5 = b4x21 := f5.v 0 rfl
 replace r0 := f5.io 0 rfl
 replace r1 := f5.iz 1 rfl
 clear f5
 have hx : XsOk (ts1_.map er) := by
   rw [hqts1_]
   exact trees_ok (fun s _ h => split_ok h) (fun s _ => split_proper s) (long_sum (by decide) hlong)
 have hxw := hx.wt
 rw [wt_map] at hxw
 have hxp := hx.parts
 rw [parts_map] at hxp
 have hxl := len_wt ts1_
 show Code.wp _ _ _ a5 w5
 refine wp_seq ?_
 refine region_St (bf := [0, 0, 2, 6, 15, 31]) (sp := [det _ 22 _, det _ 23 _, det _ 24 _, det _ 25 _, det _ 26 _, det _ 6 _]) [io r0, iz r1] mixed st5 (by kernel_rfl) ⟨r0, r1, trivial⟩
  ⟨Ob.d fun c => r_move rfl (c.p e1),
  Ob.d fun c => r_move rfl (c.p e5),
  Ob.d fun c => r_len rfl Try.underlying23 (c.n 1 rfl) r0.isSl,
  Ob.d fun c => r_add rfl (c.n 2 rfl) rfl (by first | omega | (dsimp only at *; simp only [List.map_cons, List.map_nil, sumL_cons, sumL_nil]; omega)),
  Ob.c fun c => ⟨_, _, (e_call2 rfl rfl Try.call21 (c.n 0 rfl) (c.n 3 rfl)), low_c y ((ts1_.length : Int) + 1) _ (by first | omega | (dsimp only at *; simp only [List.map_cons, List.map_nil, sumL_cons, sumL_nil]; omega)) (by first | omega | (dsimp only at *; simp only [List.map_cons, List.map_nil, sumL_cons, sumL_nil]; omega))⟩,
  Ob.d fun c => r_assign rfl (c.n 4 rfl), trivial⟩ ?_
 intro a6 w6 τ6 st6 f6
 obtain ⟨e4, e5, -⟩ := f6.ks [(4, _), (5, _)] ⟨e4, e5, trivial⟩
 have e6 : get a6 6 = (.int .i64 (lowF y ((ts1_.length : Int) + 1))) := f6.v 5 rfl
 replace r0 := f6.io 0 rfl
 replace r1 := f6.iz 1 rfl
 clear f6
 have hlow := low_range y ((ts1_.length : Int) + 1) (by omega) (by omega)
 obtain ⟨kk, hkk⟩ : ∃ x_ : Nat, lowF y ((ts1_.length : Int) + 1) = (x_ : Int) := ⟨(lowF y ((ts1_.length : Int) + 1)).toNat, by omega⟩
 replace e6 := e6.trans (int_eq hkk)
 have hkk : kk ≤ ts1_.length := by omega
 have hsa := sub_wt ts1_ 0 (kk - 0)
 have hsb := sub_wt ts1_ kk (ts1_.length - kk)
 show Code.wp _ _ _ a6 w6
 refine wp_seq ?_
 refine region_of_ops ?_
 refine ops_cut 2 (by kernel_rfl) ?_
 refine ops_St (bf := [0, 1]) (sp := [det _ 27 _, zdet _ 28 (fun b : Tr => b.v) (fun b : Tr => er b = seqF (ts1_.map er)) (fun b : Tr => zTr (Gn none' w) b)]) [io r0, iz r1] st6 (by kernel_rfl) ⟨r0, r1, trivial⟩
  ⟨Ob.d fun c => r_move rfl (c.p e5),
  Ob.zc (f := fun b : Tr => b.v) (Ψ := fun b : Tr => er b = seqF (ts1_.map er)) (Φ := fun b : Tr => zTr (Gn none' w) b) fun {_ a_ _ _} c => ⟨_, _, (e_call1 rfl rfl Try.call13 (c.n 0 rfl)), (seq_c b4x21 ts1_ _ (zl (c.iz 1 rfl) (c.io 0 rfl).1.sl) (by first | omega | (dsimp only at *; simp only [List.map_cons, List.map_nil, sumL_cons, sumL_nil]; omega))).mono (fun e w' ⟨t_, he_, hx_, ht_, hq_⟩ => ⟨t_, he_, hx_, hq_, c.tn st6 hx_ ht_⟩)⟩, trivial⟩ ?_
 intro a7 w7 τ7 st7 f7
 obtain ⟨e4, e5, e6, -⟩ := f7.ks [(4, _), (5, _), (6, _)] ⟨e4, e5, e6, trivial⟩
 obtain ⟨t2_, e28, hqt2_, hz7⟩ := f7.zd 1 rfl
 have e28 : get a7 28 = (.agg #[(.int .i64 (t2_.k)), (.string (t2_.ch)), (.bool (t2_.ng)), t2_.rv.v, (.int .i64 (t2_.mn)), (.int .i64 (t2_.mx)), (.bool (t2_.lz)), t2_.kv.v]) := e28
 have hwt2_ := wt_seqb hqt2_
 replace r0 := f7.io 0 rfl
 replace r1 := f7.iz 1 rfl
 have r2 : Fz (zTr (Gn none' w) t2_) τ7 w7 := hz7
 clear f7
 refine only_mk ?_
 refine ops_cut 2 (by kernel_rfl) ?_
 refine ops_St (bf := [0, 1]) (sp := [det _ 29 _, zdet _ 30 (fun b : Tr => b.v) (fun b : Tr => er b = altF (ts1_.map er)) (fun b : Tr => zTr (Gn none' w) b)]) [io r0, iz r1, iz r2] st7 (by kernel_rfl) ⟨r0, r1, r2, trivial⟩
  ⟨Ob.d fun c => r_move rfl (c.p e5),
  Ob.zc (f := fun b : Tr => b.v) (Ψ := fun b : Tr => er b = altF (ts1_.map er)) (Φ := fun b : Tr => zTr (Gn none' w) b) fun {_ a_ _ _} c => ⟨_, _, (e_call1 rfl rfl Try.call15 (c.n 0 rfl)), (alt_c b4x21 ts1_ _ (zl (c.iz 1 rfl) (c.io 0 rfl).1.sl) (by first | omega | (dsimp only at *; simp only [List.map_cons, List.map_nil, sumL_cons, sumL_nil]; omega))).mono (fun e w' ⟨t_, he_, hx_, ht_, hq_⟩ => ⟨t_, he_, hx_, hq_, c.tn st7 hx_ ht_⟩)⟩, trivial⟩ ?_
 intro a8 w8 τ8 st8 f8
 obtain ⟨e4, e5, e6, e28, -⟩ := f8.ks [(4, _), (5, _), (6, _), (28, _)] ⟨e4, e5, e6, e28, trivial⟩
 obtain ⟨t3_, e30, hqt3_, hz8⟩ := f8.zd 1 rfl
 have e30 : get a8 30 = (.agg #[(.int .i64 (t3_.k)), (.string (t3_.ch)), (.bool (t3_.ng)), t3_.rv.v, (.int .i64 (t3_.mn)), (.int .i64 (t3_.mx)), (.bool (t3_.lz)), t3_.kv.v]) := e30
 have hwt3_ := wt_altb hqt3_
 replace r0 := f8.io 0 rfl
 replace r1 := f8.iz 1 rfl
 replace r2 := f8.iz 2 rfl
 have r3 : Fz (zTr (Gn none' w) t3_) τ8 w8 := hz8
 clear f8
 refine only_mk ?_
 refine ops_St (bf := [0, 1, 3, 7]) (sp := [box _ _ 4 7 [(.int .i64 (0)), (.string ((⟨#[]⟩ : ByteArray))), (.bool (false)), (.slice none 0 0), (.int .i64 (0)), (.int .i64 (0)), (.bool (false)), (.slice none 0 0)], box _ _ 5 8 [(.int .i64 (0)), (.string ((⟨#[]⟩ : ByteArray))), (.bool (false)), (.slice none 0 0), (.int .i64 (0)), (.int .i64 (0)), (.bool (false)), (.slice none 0 0)], box _ _ 4 7 [(.int .i64 (t2_.k)), (.string (t2_.ch)), (.bool (t2_.ng)), t2_.rv.v, (.int .i64 (t2_.mn)), (.int .i64 (t2_.mx)), (.bool (t2_.lz)), t2_.kv.v], box _ _ 5 8 [(.int .i64 (t3_.k)), (.string (t3_.ch)), (.bool (t3_.ng)), t3_.rv.v, (.int .i64 (t3_.mn)), (.int .i64 (t3_.mx)), (.bool (t3_.lz)), t3_.kv.v]]) [io r0, iz r1, iz r2, iz r3] st8 (by kernel_rfl) ⟨r0, r1, r2, r3, trivial⟩
  ⟨Ob.alloc rfl rfl rfl rfl Try.zeroValue25 rfl,
  Ob.alloc rfl rfl rfl rfl Try.zeroValue25 rfl,
  Ob.storeBox (off := 0) (v := (.agg #[(.int .i64 (t2_.k)), (.string (t2_.ch)), (.bool (t2_.ng)), t2_.rv.v, (.int .i64 (t2_.mn)), (.int .i64 (t2_.mx)), (.bool (t2_.lz)), t2_.kv.v])) rfl rfl rfl rfl Try.sizeOf25 (Nat.le_of_ble_eq_true rfl) (by simp [Value.cells, Value.oneCell', Sv.v]) rfl (fun _ _ _ _ c => ⟨c.rb 0 rfl, (c.rb 0 rfl).ptr, (c.p e28)⟩),
  Ob.storeBox (off := 0) (v := (.agg #[(.int .i64 (t3_.k)), (.string (t3_.ch)), (.bool (t3_.ng)), t3_.rv.v, (.int .i64 (t3_.mn)), (.int .i64 (t3_.mx)), (.bool (t3_.lz)), t3_.kv.v])) rfl rfl rfl rfl Try.sizeOf25 (Nat.le_of_ble_eq_true rfl) (by simp [Value.cells, Value.oneCell', Sv.v]) rfl (fun _ _ _ _ c => ⟨c.rb 1 rfl, (c.rb 1 rfl).ptr, (c.p e30)⟩), trivial⟩ ?_
 intro a9 w9 τ9 st9 f9
 obtain ⟨b9x7, e7⟩ : ∃ b, get a9 7 = b := ⟨_, rfl⟩
 obtain ⟨b9x8, e8⟩ : ∃ b, get a9 8 = b := ⟨_, rfl⟩
 obtain ⟨e4, e5, e6, -⟩ := f9.ks [(4, _), (5, _), (6, _)] ⟨e4, e5, e6, trivial⟩
 replace r0 := f9.io 0 rfl
 replace r1 := f9.iz 1 rfl
 replace r2 := f9.iz 2 rfl
 replace r3 := f9.iz 3 rfl
 have r4 : boxR 25 [(.int .i64 (t2_.k)), (.string (t2_.ch)), (.bool (t2_.ng)), t2_.rv.v, (.int .i64 (t2_.mn)), (.int .i64 (t2_.mx)), (.bool (t2_.lz)), t2_.kv.v] (τ9 4) b9x7 w9 := f9.rb 2 e7 rfl
 have r5 : boxR 25 [(.int .i64 (t3_.k)), (.string (t3_.ch)), (.bool (t3_.ng)), t3_.rv.v, (.int .i64 (t3_.mn)), (.int .i64 (t3_.mx)), (.bool (t3_.lz)), t3_.kv.v] (τ9 5) b9x8 w9 := f9.rb 3 e8 rfl
 clear f9
 show Code.wp _ _ _ a9 w9
 refine wp_seq ?_
 refine wp_seq ?_
 refine region_St (bf := [0, 0, 3, 7, 0, 0, 48, 127, 255, 511, 0, 2047, 4095]) (sp := [det _ 31 _, det _ 32 _, det _ 33 _, gzdet _ 34 (True) (fun b : Tr => b.v) (fun b : Tr => er b = seqF (((ts1_.drop 0).take (kk - 0)).map er)) (fun b : Tr => zTr (Gn none' w) b), det _ 35 _, det _ 36 _, det _ 37 _, gzdet _ 38 (True) (fun b : Tr => b.v) (fun b : Tr => er b = seqF (((ts1_.drop kk).take (ts1_.length - kk)).map er)) (fun b : Tr => zTr (Gn none' w) b), gzown TrE 25 _ 6 39 (True) (fun b : Tr × Tr => [b.1, b.2]) (fun b : Tr × Tr => (fun b : Tr => er b = seqF (((ts1_.drop 0).take (kk - 0)).map er)) b.1 ∧ (fun b : Tr => er b = seqF (((ts1_.drop kk).take (ts1_.length - kk)).map er)) b.2) (fun b : Tr × Tr => (((fun b : Tr => zTr (Gn none' w) b) b.1)).and ((fun b : Tr => zTr (Gn none' w) b) b.2)), gzdet _ 40 (True) (fun b : Tr => b.v) (fun b : Tr => er b = seqF ([(seqF (((ts1_.drop 0).take (kk - 0)).map er)), (seqF (((ts1_.drop kk).take (ts1_.length - kk)).map er))].map er)) (fun b : Tr => zTr (Gn none' w) b), det _ 41 _, det _ 42 _, det _ 43 _]) [io r0, iz r1, iz r2, iz r3, ib r4, ib r5] mixed st9 (by kernel_rfl) ⟨r0, r1, r2, r3, r4, r5, trivial⟩
  ⟨Ob.d fun c => r_move rfl (c.p e5),
  Ob.d fun c => r_move rfl (c.p e6),
  Ob.d fun c => r_sliceHi rfl Try.underlying23 Try.sizeOf25 (c.n 0 rfl) r0.isSl (c.n 1 rfl) (by first | omega | (dsimp only at *; simp only [List.map_cons, List.map_nil, sumL_cons, sumL_nil]; omega)) (by first | omega | (dsimp only at *; simp only [List.map_cons, List.map_nil, sumL_cons, sumL_nil]; omega)),
  Ob.gz (f := fun b : Tr => b.v) (Ψ := fun b : Tr => er b = seqF (((ts1_.drop 0).take (kk - 0)).map er)) (Φ := fun b : Tr => zTr (Gn none' w) b) gd0 fun {_ a_ _ _} c hpc => ⟨_, _, (e_call1 rfl rfl Try.call13 (c.n 2 rfl)), (seq_c (subV b4x21 0 kk 8) ((ts1_.drop 0).take (kk - 0)) _ (zl (zsub (c.iz 1 rfl)) ((c.io 0 rfl).1.sl.sub (lo := 0) (hi := kk) (by first | omega | (dsimp only at *; simp only [List.map_cons, List.map_nil, sumL_cons, sumL_nil]; omega)) (by first | omega | (dsimp only at *; simp only [List.map_cons, List.map_nil, sumL_cons, sumL_nil]; omega)))) (by first | omega | (dsimp only at *; simp only [List.map_cons, List.map_nil, sumL_cons, sumL_nil]; omega))).mono (fun e w' ⟨t_, he_, hx_, ht_, hq_⟩ => ⟨t_, he_, hx_, hq_, c.tn st9 hx_ ht_⟩)⟩,
  Ob.d fun c => r_move rfl (c.p e5),
  Ob.d fun c => r_move rfl (c.p e6),
  Ob.d fun c => r_sliceLo rfl Try.underlying23 Try.sizeOf25 (c.n 4 rfl) r0.isSl (c.n 5 rfl) (by first | omega | (dsimp only at *; simp only [List.map_cons, List.map_nil, sumL_cons, sumL_nil]; omega)) (by first | omega | (dsimp only at *; simp only [List.map_cons, List.map_nil, sumL_cons, sumL_nil]; omega)),
  Ob.gz (f := fun b : Tr => b.v) (Ψ := fun b : Tr => er b = seqF (((ts1_.drop kk).take (ts1_.length - kk)).map er)) (Φ := fun b : Tr => zTr (Gn none' w) b) gd0 fun {_ a_ _ _} c hpc => ⟨_, _, (e_call1 rfl rfl Try.call13 (c.n 6 rfl)), (seq_c (subV b4x21 kk ts1_.length 8) ((ts1_.drop kk).take (ts1_.length - kk)) _ (zl (zsub (c.iz 1 rfl)) ((c.io 0 rfl).1.sl.sub (lo := kk) (hi := ts1_.length) (by first | omega | (dsimp only at *; simp only [List.map_cons, List.map_nil, sumL_cons, sumL_nil]; omega)) (by first | omega | (dsimp only at *; simp only [List.map_cons, List.map_nil, sumL_cons, sumL_nil]; omega)))) (by first | omega | (dsimp only at *; simp only [List.map_cons, List.map_nil, sumL_cons, sumL_nil]; omega))).mono (fun e w' ⟨t_, he_, hx_, ht_, hq_⟩ => ⟨t_, he_, hx_, hq_, c.tn st9 hx_ ht_⟩)⟩,
  Ob.gzBuild (E := TrE) (xs := fun b : Tr × Tr => [b.1, b.2]) (Ψ := fun b : Tr × Tr => (fun b : Tr => er b = seqF (((ts1_.drop 0).take (kk - 0)).map er)) b.1 ∧ (fun b : Tr => er b = seqF (((ts1_.drop kk).take (ts1_.length - kk)).map er)) b.2) (Φ := fun b : Tr × Tr => (((fun b : Tr => zTr (Gn none' w) b) b.1)).and ((fun b : Tr => zTr (Gn none' w) b) b.2)) (cells := fun b : Tr × Tr => #[(.int .i64 (b.1.k)), (.string (b.1.ch)), (.bool (b.1.ng)), b.1.rv.v, (.int .i64 (b.1.mn)), (.int .i64 (b.1.mx)), (.bool (b.1.lz)), b.1.kv.v, (.int .i64 (b.2.k)), (.string (b.2.ch)), (.bool (b.2.ng)), b.2.rv.v, (.int .i64 (b.2.mn)), (.int .i64 (b.2.mx)), (.bool (b.2.lz)), b.2.kv.v]) gd0 rfl Try.underlying23 Try.sizeOf25 Try.zeroValue25 (by decide) (by decide) (fun b => rfl) (fun b => rfl) fun c hpc => by obtain ⟨t4_, hv3, hqt4_, hzt4_⟩ := c.zd 3 rfl trivial; have hwt4_ := wt_seqb hqt4_; obtain ⟨t5_, hv7, hqt5_, hzt5_⟩ := c.zd 7 rfl trivial; have hwt5_ := wt_seqb hqt5_; exact ⟨⟨t4_, t5_⟩, ⟨hqt4_, hqt5_⟩, ⟨hzt4_, hzt5_⟩, fill2 hv3 hv7 (by kernel_rfl)⟩,
  Ob.gz (f := fun b : Tr => b.v) (Ψ := fun b : Tr => er b = seqF ([(seqF (((ts1_.drop 0).take (kk - 0)).map er)), (seqF (((ts1_.drop kk).take (ts1_.length - kk)).map er))].map er)) (Φ := fun b : Tr => zTr (Gn none' w) b) gd0 fun {_ a_ _ _} c hpc => by obtain ⟨⟨t4_, t5_⟩, ho8, ⟨hqt4_, hqt5_⟩, ⟨hzt4_, hzt5_⟩⟩ := c.zo 8 rfl trivial; have hwt4_ := wt_seqb hqt4_; have hwt5_ := wt_seqb hqt5_; exact ⟨_, _, (e_call1 rfl rfl Try.call13 (eval_tmp _ 39)), (seq_c _ [t4_, t5_] _ (zl (zcons hzt4_ (zcons hzt5_ znil)) ho8.1.sl) (by first | omega | (dsimp only at *; simp only [List.map_cons, List.map_nil, sumL_cons, sumL_nil]; omega))).mono (fun e w' ⟨t_, he_, hx_, ht_, hq_⟩ => ⟨t_, he_, hx_, hq_.trans (by rw [← hqt4_, ← hqt5_]; simp only [List.map_cons, List.map_nil, er_er]), c.tn st9 hx_ ht_⟩)⟩,
  Ob.d fun c => r_loadN (vs := [(.int .i64 (t2_.k)), (.string (t2_.ch)), (.bool (t2_.ng)), t2_.rv.v, (.int .i64 (t2_.mn)), (.int .i64 (t2_.mx)), (.bool (t2_.lz)), t2_.kv.v]) rfl Try.isAgg25 Try.sizeOf25 ((c.p e7).trans r4.ptr) rfl (fun _ _ hj => (c.ib 4 rfl).cell hj),
  Ob.c fun c => by obtain ⟨t6_, hv9, hqt6_, hzt6_⟩ := c.zd 9 rfl trivial; have hwt6_ := wt_seqb hqt6_; exact ⟨_, _, (e_call2 rfl rfl Try.call11 hv9 (c.n 10 rfl)), Calls.isV (same_c t6_ t2_ _ (zs hzt6_) (zs (c.iz 2 rfl))) (congrArg _ (show (sameF t6_ t2_) = (sameF (seqF ([(seqF (((ts1_.drop 0).take (kk - 0)).map er)), (seqF (((ts1_.drop kk).take (ts1_.length - kk)).map er))].map er)) t2_) from by first | (rw [← hqt6_]; simp only [sameF_er2, sameF_erl]) | (rw [← sameF_er2, hqt6_])))⟩,
  Ob.d fun c => r_not rfl (c.n 11 rfl), trivial⟩ ?_
 intro a10 w10 τ10 st10 f10
 obtain ⟨e4, e5, e6, e7, e8, -⟩ := f10.ks [(4, _), (5, _), (6, _), (7, _), (8, _)] ⟨e4, e5, e6, e7, e8, trivial⟩
 have e43 : get a10 43 = (.bool (!(sameF (seqF ([(seqF (((ts1_.drop 0).take (kk - 0)).map er)), (seqF (((ts1_.drop kk).take (ts1_.length - kk)).map er))].map er)) t2_))) := f10.v 12 rfl
 replace r0 := f10.io 0 rfl
 replace r1 := f10.iz 1 rfl
 replace r2 := f10.iz 2 rfl
 replace r3 := f10.iz 3 rfl
 replace r4 := f10.ib 4 rfl
 replace r5 := f10.ib 5 rfl
 clear f10
 show Code.wp _ _ _ a10 w10
 refine wp_cond_split (t := !(sameF (seqF ([(seqF (((ts1_.drop 0).take (kk - 0)).map er)), (seqF (((ts1_.drop kk).take (ts1_.length - kk)).map er))].map er)) t2_)) e43 (fun hc2 => ?_) (fun hc2 => ?_)
 · have hd2 := hc2; try simp only [Bool.not_eq_true', Bool.not_eq_false'] at hd2
   refine wp_seq ?_
   refine region_St (bf := [0]) (sp := [det _ 4 _]) [io r0, iz r1, iz r2, iz r3, ib r4, ib r5] mixed st10 (by kernel_rfl) ⟨r0, r1, r2, r3, r4, r5, trivial⟩
    ⟨Ob.d fun c => r_assign rfl rfl, trivial⟩ ?_
   intro a11 w11 τ11 st11 f11
   obtain ⟨e5, e6, e7, e8, -⟩ := f11.ks [(5, _), (6, _), (7, _), (8, _)] ⟨e5, e6, e7, e8, trivial⟩
   have e4 : get a11 4 = (.bool (false)) := f11.v 0 rfl
   replace r0 := f11.io 0 rfl
   replace r1 := f11.iz 1 rfl
   replace r2 := f11.iz 2 rfl
   replace r3 := f11.iz 3 rfl
   replace r4 := f11.ib 4 rfl
   replace r5 := f11.ib 5 rfl
   clear f11
   show Code.wp _ _ _ a11 w11
   refine wp_ret ?_
   repeat (first | with_reducible refine then_ret ?_ | with_reducible refine block_ret ?_)
   refine ret1 (fn := Try.f8) rfl st11.defers e4 ?_
   exfalso
   rw [show sameF (seqF ([(seqF (((ts1_.drop 0).take (kk - 0)).map er)), (seqF (((ts1_.drop kk).take (ts1_.length - kk)).map er))].map er)) t2_ = true from sameF_iff.2 (by rw [twice_seq hkk hx, er_seqF, ← hqt2_])] at hc2
   cases hc2
 have hd2 := hc2; try simp only [Bool.not_eq_true', Bool.not_eq_false'] at hd2
 refine wp_skip ?_
 show Code.wp _ _ _ a10 w10
 refine wp_seq ?_
 refine wp_seq ?_
 refine region_St (bf := [0, 1, 3, 7, 7, 23, 63, 127, 255, 511, 511, 2047, 4095, 511, 511, 25087, 65535, 131071, 262143, 511, 1048575, 2097151, 4194303]) (sp := [det _ 44 _, det _ 45 _, det _ 46 _, gdet _ 47 _ _, gdet _ 48 _ _, gdet _ 49 _ _, gdet _ 50 _ _, det _ 51 _, det _ 52 _, gdet _ 53 _ _, gdet _ 54 _ _, gdet _ 55 _ _, gzdet _ 56 (((decide (0 < (kk : Int))) && (decide ((kk : Int) < (ts1_.length : Int)))) = true) (fun b : Tr => b.v) (fun b : Tr => er b = altF (((ts1_.drop 0).take (kk - 0)).map er)) (fun b : Tr => zTr (Gn none' w) b), gdet _ 57 _ _, gdet _ 58 _ _, gdet _ 59 _ _, gzdet _ 60 (((decide (0 < (kk : Int))) && (decide ((kk : Int) < (ts1_.length : Int)))) = true) (fun b : Tr => b.v) (fun b : Tr => er b = altF (((ts1_.drop kk).take (ts1_.length - kk)).map er)) (fun b : Tr => zTr (Gn none' w) b), gzown TrE 25 _ 6 61 (((decide (0 < (kk : Int))) && (decide ((kk : Int) < (ts1_.length : Int)))) = true) (fun b : Tr × Tr => [b.1, b.2]) (fun b : Tr × Tr => (fun b : Tr => er b = altF (((ts1_.drop 0).take (kk - 0)).map er)) b.1 ∧ (fun b : Tr => er b = altF (((ts1_.drop kk).take (ts1_.length - kk)).map er)) b.2) (fun b : Tr × Tr => (((fun b : Tr => zTr (Gn none' w) b) b.1)).and ((fun b : Tr => zTr (Gn none' w) b) b.2)), gzdet _ 62 (((decide (0 < (kk : Int))) && (decide ((kk : Int) < (ts1_.length : Int)))) = true) (fun b : Tr => b.v) (fun b : Tr => er b = altF ([(altF (((ts1_.drop 0).take (kk - 0)).map er)), (altF (((ts1_.drop kk).take (ts1_.length - kk)).map er))].map er)) (fun b : Tr => zTr (Gn none' w) b), gdet _ 63 _ _, gdet _ 64 _ _, gdet _ 65 _ _, det _ 66 _]) [io r0, iz r1, iz r2, iz r3, ib r4, ib r5] mixed st10 (by kernel_rfl) ⟨r0, r1, r2, r3, r4, r5, trivial⟩
  ⟨Ob.d fun c => r_move rfl (c.p e6),
  Ob.d fun c => r_gtr rfl (c.n 0 rfl) rfl,
  Ob.d fun c => r_move rfl (c.n 1 rfl),
  Ob.g 2 true rfl fun c hpc => r_move rfl (c.p e6),
  Ob.g 2 true rfl fun c hpc => r_move rfl (c.p e5),
  Ob.g 2 true rfl fun c hpc => r_len rfl Try.underlying23 (c.m 4 rfl hpc) r0.isSl,
  Ob.g 2 true rfl fun c hpc => r_lss rfl (c.m 3 rfl hpc) (c.m 5 rfl hpc),
  Ob.d fun c => r_and rfl (c.n 2 rfl) (fun h => c.m 6 rfl h),
  Ob.d fun c => r_move rfl (c.n 7 rfl),
  Ob.g 8 true rfl fun c hpc => r_move rfl (c.p e5),
  Ob.g 8 true rfl fun c hpc => r_move rfl (c.p e6),
  Ob.g 8 true rfl fun c hpc => r_sliceHi rfl Try.underlying23 Try.sizeOf25 (c.m 9 rfl hpc) r0.isSl (c.m 10 rfl hpc) (by have hq0 := hpc; (try simp only [Bool.and_eq_true, decide_eq_true_eq] at hq0); first | omega | (dsimp only at *; simp only [List.map_cons, List.map_nil, sumL_cons, sumL_nil]; omega)) (by have hq0 := hpc; (try simp only [Bool.and_eq_true, decide_eq_true_eq] at hq0); first | omega | (dsimp only at *; simp only [List.map_cons, List.map_nil, sumL_cons, sumL_nil]; omega)),
  Ob.gz (f := fun b : Tr => b.v) (Ψ := fun b : Tr => er b = altF (((ts1_.drop 0).take (kk - 0)).map er)) (Φ := fun b : Tr => zTr (Gn none' w) b) (gd1 8 true) fun {_ a_ _ _} c hpc => ⟨_, _, (e_call1 rfl rfl Try.call15 (c.m 11 rfl hpc)), (alt_c (subV b4x21 0 kk 8) ((ts1_.drop 0).take (kk - 0)) _ (zl (zsub (c.iz 1 rfl)) ((c.io 0 rfl).1.sl.sub (lo := 0) (hi := kk) (by have hq0 := hpc; (try simp only [Bool.and_eq_true, decide_eq_true_eq] at hq0); first | omega | (dsimp only at *; simp only [List.map_cons, List.map_nil, sumL_cons, sumL_nil]; omega)) (by have hq0 := hpc; (try simp only [Bool.and_eq_true, decide_eq_true_eq] at hq0); first | omega | (dsimp only at *; simp only [List.map_cons, List.map_nil, sumL_cons, sumL_nil]; omega)))) (by have hq0 := hpc; (try simp only [Bool.and_eq_true, decide_eq_true_eq] at hq0); first | omega | (dsimp only at *; simp only [List.map_cons, List.map_nil, sumL_cons, sumL_nil]; omega))).mono (fun e w' ⟨t_, he_, hx_, ht_, hq_⟩ => ⟨t_, he_, hx_, hq_, c.tn st10 hx_ ht_⟩)⟩,
  Ob.g 8 true rfl fun c hpc => r_move rfl (c.p e5),
  Ob.g 8 true rfl fun c hpc => r_move rfl (c.p e6),
  Ob.g 8 true rfl fun c hpc => r_sliceLo rfl Try.underlying23 Try.sizeOf25 (c.m 13 rfl hpc) r0.isSl (c.m 14 rfl hpc) (by have hq0 := hpc; (try simp only [Bool.and_eq_true, decide_eq_true_eq] at hq0); first | omega | (dsimp only at *; simp only [List.map_cons, List.map_nil, sumL_cons, sumL_nil]; omega)) (by have hq0 := hpc; (try simp only [Bool.and_eq_true, decide_eq_true_eq] at hq0); first | omega | (dsimp only at *; simp only [List.map_cons, List.map_nil, sumL_cons, sumL_nil]; omega)),
  Ob.gz (f := fun b : Tr => b.v) (Ψ := fun b : Tr => er b = altF (((ts1_.drop kk).take (ts1_.length - kk)).map er)) (Φ := fun b : Tr => zTr (Gn none' w) b) (gd1 8 true) fun {_ a_ _ _} c hpc => ⟨_, _, (e_call1 rfl rfl Try.call15 (c.m 15 rfl hpc)), (alt_c (subV b4x21 kk ts1_.length 8) ((ts1_.drop kk).take (ts1_.length - kk)) _ (zl (zsub (c.iz 1 rfl)) ((c.io 0 rfl).1.sl.sub (lo := kk) (hi := ts1_.length) (by have hq0 := hpc; (try simp only [Bool.and_eq_true, decide_eq_true_eq] at hq0); first | omega | (dsimp only at *; simp only [List.map_cons, List.map_nil, sumL_cons, sumL_nil]; omega)) (by have hq0 := hpc; (try simp only [Bool.and_eq_true, decide_eq_true_eq] at hq0); first | omega | (dsimp only at *; simp only [List.map_cons, List.map_nil, sumL_cons, sumL_nil]; omega)))) (by have hq0 := hpc; (try simp only [Bool.and_eq_true, decide_eq_true_eq] at hq0); first | omega | (dsimp only at *; simp only [List.map_cons, List.map_nil, sumL_cons, sumL_nil]; omega))).mono (fun e w' ⟨t_, he_, hx_, ht_, hq_⟩ => ⟨t_, he_, hx_, hq_, c.tn st10 hx_ ht_⟩)⟩,
  Ob.gzBuild (E := TrE) (xs := fun b : Tr × Tr => [b.1, b.2]) (Ψ := fun b : Tr × Tr => (fun b : Tr => er b = altF (((ts1_.drop 0).take (kk - 0)).map er)) b.1 ∧ (fun b : Tr => er b = altF (((ts1_.drop kk).take (ts1_.length - kk)).map er)) b.2) (Φ := fun b : Tr × Tr => (((fun b : Tr => zTr (Gn none' w) b) b.1)).and ((fun b : Tr => zTr (Gn none' w) b) b.2)) (cells := fun b : Tr × Tr => #[(.int .i64 (b.1.k)), (.string (b.1.ch)), (.bool (b.1.ng)), b.1.rv.v, (.int .i64 (b.1.mn)), (.int .i64 (b.1.mx)), (.bool (b.1.lz)), b.1.kv.v, (.int .i64 (b.2.k)), (.string (b.2.ch)), (.bool (b.2.ng)), b.2.rv.v, (.int .i64 (b.2.mn)), (.int .i64 (b.2.mx)), (.bool (b.2.lz)), b.2.kv.v]) (gd1 8 true) rfl Try.underlying23 Try.sizeOf25 Try.zeroValue25 (by decide) (by decide) (fun b => rfl) (fun b => rfl) fun c hpc => by obtain ⟨t7_, hv12, hqt7_, hzt7_⟩ := c.zd 12 rfl hpc; have hwt7_ := wt_altb hqt7_; obtain ⟨t8_, hv16, hqt8_, hzt8_⟩ := c.zd 16 rfl hpc; have hwt8_ := wt_altb hqt8_; exact ⟨⟨t7_, t8_⟩, ⟨hqt7_, hqt8_⟩, ⟨hzt7_, hzt8_⟩, fill2 hv12 hv16 (by kernel_rfl)⟩,
  Ob.gz (f := fun b : Tr => b.v) (Ψ := fun b : Tr => er b = altF ([(altF (((ts1_.drop 0).take (kk - 0)).map er)), (altF (((ts1_.drop kk).take (ts1_.length - kk)).map er))].map er)) (Φ := fun b : Tr => zTr (Gn none' w) b) (gd1 8 true) fun {_ a_ _ _} c hpc => by obtain ⟨⟨t7_, t8_⟩, ho17, ⟨hqt7_, hqt8_⟩, ⟨hzt7_, hzt8_⟩⟩ := c.zo 17 rfl hpc; have hwt7_ := wt_altb hqt7_; have hwt8_ := wt_altb hqt8_; exact ⟨_, _, (e_call1 rfl rfl Try.call15 (eval_tmp _ 61)), (alt_c _ [t7_, t8_] _ (zl (zcons hzt7_ (zcons hzt8_ znil)) ho17.1.sl) (by have hq0 := hpc; (try simp only [Bool.and_eq_true, decide_eq_true_eq] at hq0); first | omega | (dsimp only at *; simp only [List.map_cons, List.map_nil, sumL_cons, sumL_nil]; omega))).mono (fun e w' ⟨t_, he_, hx_, ht_, hq_⟩ => ⟨t_, he_, hx_, hq_.trans (by rw [← hqt7_, ← hqt8_]; simp only [List.map_cons, List.map_nil, er_er]), c.tn st10 hx_ ht_⟩)⟩,
  Ob.g 8 true rfl fun c hpc => r_loadN (vs := [(.int .i64 (t3_.k)), (.string (t3_.ch)), (.bool (t3_.ng)), t3_.rv.v, (.int .i64 (t3_.mn)), (.int .i64 (t3_.mx)), (.bool (t3_.lz)), t3_.kv.v]) rfl Try.isAgg25 Try.sizeOf25 ((c.p e8).trans r5.ptr) rfl (fun _ _ hj => (c.ib 5 rfl).cell hj),
  Ob.gc 8 true rfl fun c hpc => by obtain ⟨t9_, hv18, hqt9_, hzt9_⟩ := c.zd 18 rfl hpc; have hwt9_ := wt_altb hqt9_; exact ⟨_, _, (e_call2 rfl rfl Try.call11 hv18 (c.m 19 rfl hpc)), Calls.isV (same_c t9_ t3_ _ (zs hzt9_) (zs (c.iz 3 rfl))) (congrArg _ (show (sameF t9_ t3_) = (sameF (altF ([(altF (((ts1_.drop 0).take (kk - 0)).map er)), (altF (((ts1_.drop kk).take (ts1_.length - kk)).map er))].map er)) t3_) from by first | (rw [← hqt9_]; simp only [sameF_er2, sameF_erl]) | (rw [← sameF_er2, hqt9_])))⟩,
  Ob.g 8 true rfl fun c hpc => r_not rfl (c.m 20 rfl hpc),
  Ob.d fun c => r_and rfl (c.n 8 rfl) (fun h => c.m 21 rfl h), trivial⟩ ?_
 intro a12 w12 τ12 st12 f12
 obtain ⟨e4, e5, e7, e8, -⟩ := f12.ks [(4, _), (5, _), (7, _), (8, _)] ⟨e4, e5, e7, e8, trivial⟩
 have e66 : get a12 66 = (.bool (((decide (0 < (kk : Int))) && (decide ((kk : Int) < (ts1_.length : Int)))) && (!(sameF (altF ([(altF (((ts1_.drop 0).take (kk - 0)).map er)), (altF (((ts1_.drop kk).take (ts1_.length - kk)).map er))].map er)) t3_)))) := f12.v 22 rfl
 replace r0 := f12.io 0 rfl
 replace r1 := f12.iz 1 rfl
 replace r2 := f12.iz 2 rfl
 replace r3 := f12.iz 3 rfl
 replace r4 := f12.ib 4 rfl
 replace r5 := f12.ib 5 rfl
 clear f12
 show Code.wp _ _ _ a12 w12
 refine wp_cond_split (t := ((decide (0 < (kk : Int))) && (decide ((kk : Int) < (ts1_.length : Int)))) && (!(sameF (altF ([(altF (((ts1_.drop 0).take (kk - 0)).map er)), (altF (((ts1_.drop kk).take (ts1_.length - kk)).map er))].map er)) t3_))) e66 (fun hc3 => ?_) (fun hc3 => ?_)
 · have hd3 := hc3; try simp only [Bool.and_eq_true, Bool.and_eq_false_iff, Bool.not_eq_true', Bool.not_eq_false', decide_eq_true_eq, decide_eq_false_iff_not, Int.not_lt] at hd3
   refine wp_seq ?_
   refine region_St (bf := [0]) (sp := [det _ 4 _]) [io r0, iz r1, iz r2, iz r3, ib r4, ib r5] mixed st12 (by kernel_rfl) ⟨r0, r1, r2, r3, r4, r5, trivial⟩
    ⟨Ob.d fun c => r_assign rfl rfl, trivial⟩ ?_
   intro a13 w13 τ13 st13 f13
   obtain ⟨e5, e7, e8, -⟩ := f13.ks [(5, _), (7, _), (8, _)] ⟨e5, e7, e8, trivial⟩
   have e4 : get a13 4 = (.bool (false)) := f13.v 0 rfl
   replace r0 := f13.io 0 rfl
   replace r1 := f13.iz 1 rfl
   replace r2 := f13.iz 2 rfl
   replace r3 := f13.iz 3 rfl
   replace r4 := f13.ib 4 rfl
   replace r5 := f13.ib 5 rfl
   clear f13
   show Code.wp _ _ _ a13 w13
   refine wp_ret ?_
   repeat (first | with_reducible refine then_ret ?_ | with_reducible refine block_ret ?_)
   refine ret1 (fn := Try.f8) rfl st13.defers e4 ?_
   exfalso
   rw [Bool.and_eq_true, Bool.and_eq_true, decide_eq_true_eq, decide_eq_true_eq] at hc3
   have h1_ := hc3.2
   rw [sameF_iff.2 (by rw [twice_alt (by omega) (by omega) hx, er_altF, ← hqt3_])] at h1_
   cases h1_
 have hd3 := hc3; try simp only [Bool.and_eq_true, Bool.and_eq_false_iff, Bool.not_eq_true', Bool.not_eq_false', decide_eq_true_eq, decide_eq_false_iff_not, Int.not_lt] at hd3
 refine wp_skip ?_
 show Code.wp _ _ _ a12 w12
 refine wp_seq ?_
 refine region_St (bf := [0, 1]) (sp := [det _ 9 _, det _ 10 _]) [io r0, iz r1, iz r2, iz r3, ib r4, ib r5] mixed st12 (by kernel_rfl) ⟨r0, r1, r2, r3, r4, r5, trivial⟩
  ⟨Ob.d fun c => r_assign rfl rfl,
  Ob.d fun c => r_assign rfl rfl, trivial⟩ ?_
 intro a14 w14 τ14 st14 f14
 obtain ⟨e4, e5, e7, e8, -⟩ := f14.ks [(4, _), (5, _), (7, _), (8, _)] ⟨e4, e5, e7, e8, trivial⟩
 have e9 : get a14 9 = (.int .i64 (0)) := f14.v 0 rfl
 have e10 : get a14 10 = (.int .i64 (0)) := f14.v 1 rfl
 replace r0 := f14.io 0 rfl
 replace r1 := f14.iz 1 rfl
 replace r2 := f14.iz 2 rfl
 replace r3 := f14.iz 3 rfl
 replace r4 := f14.ib 4 rfl
 replace r5 := f14.ib 5 rfl
 clear f14
 show Code.wp _ _ _ a14 w14
 refine wp_seq ?_
 refine wp_seq ?_
 refine region_St (bf := [0]) (sp := [det _ 11 _]) [io r0, iz r1, iz r2, iz r3, ib r4, ib r5] mixed st14 (by kernel_rfl) ⟨r0, r1, r2, r3, r4, r5, trivial⟩
  ⟨Ob.d fun c => r_assign rfl rfl, trivial⟩ ?_
 intro a15 w15 τ15 st15 f15
 obtain ⟨e4, e5, e7, e8, e9, e10, -⟩ := f15.ks [(4, _), (5, _), (7, _), (8, _), (9, _), (10, _)] ⟨e4, e5, e7, e8, e9, e10, trivial⟩
 have e11 : get a15 11 = (.int .i64 (0)) := f15.v 0 rfl
 replace r0 := f15.io 0 rfl
 replace r1 := f15.iz 1 rfl
 replace r2 := f15.iz 2 rfl
 replace r3 := f15.iz 3 rfl
 replace r4 := f15.ib 4 rfl
 replace r5 := f15.ib 5 rfl
 clear f15
 show Code.wp _ _ _ a15 w15
 refine wp_block ?_
 refine wp_loop (fun a_ w_ => ∃ (k : Nat) (τ : Nat → Foot), (k ≤ ts1_.length) ∧
      St (Nw w) w 112 a_ w_ τ ∧
      get a_ 9 = (.int .i64 (sumL ((ts1_.take k).map groupsF))) ∧
      get a_ 10 = (.int .i64 (maxL ((ts1_.take k).map deepF))) ∧
      get a_ 11 = (.int .i64 ((k : Int))) ∧
      get a_ 4 = (.bool (false)) ∧
      get a_ 5 = b4x21 ∧
      get a_ 7 = b9x7 ∧
      get a_ 8 = b9x8 ∧
      ownR TrE 25 (ts1_) (τ 0) b4x21 w_ ∧
      Fz (zTl (Gn none' w) ts1_) τ w_ ∧
      Fz (zTr (Gn none' w) t2_) τ w_ ∧
      Fz (zTr (Gn none' w) t3_) τ w_ ∧
      boxR 25 [(.int .i64 (t2_.k)), (.string (t2_.ch)), (.bool (t2_.ng)), t2_.rv.v, (.int .i64 (t2_.mn)), (.int .i64 (t2_.mx)), (.bool (t2_.lz)), t2_.kv.v] (τ 4) b9x7 w_ ∧
      boxR 25 [(.int .i64 (t3_.k)), (.string (t3_.ch)), (.bool (t3_.ng)), t3_.rv.v, (.int .i64 (t3_.mn)), (.int .i64 (t3_.mx)), (.bool (t3_.lz)), t3_.kv.v] (τ 5) b9x8 w_) (fun a_ _ => ts1_.length - (intOf (get a_ 11)).toNat) ?_ ?_
 · refine ⟨0, τ15, ?_, st15, (e9.trans (int_eq (by first | rfl | omega | (rw [sum_step (by omega)]) | (rw [maxL_step (by omega)])))), (e10.trans (int_eq (by first | rfl | omega | (rw [sum_step (by omega)]) | (rw [maxL_step (by omega)])))), (e11.trans (int_eq (by first | rfl | omega | (rw [sum_step (by omega)]) | (rw [maxL_step (by omega)])))), e4, e5, e7, e8, r0, r1, r2, r3, r4, r5⟩
   · omega
 intro a16 w16 hI
 obtain ⟨k, τ16, q0, st16, e9, e10, e11, e4, e5, e7, e8, r0, r1, r2, r3, r4, r5⟩ := hI
 have hg1 := groups_sum (ts1_.take k)
 have hs1 := (sum_le (f := partsF) (ts := ts1_) (fun t _ => by have := partsF_pos t; omega) k).2
 have hpm : k < ts1_.length → wtF (nth ts1_ (k : Int)) ≤ 300000 := fun h_ => Int.le_trans (sum_mem (f := wtF) (fun t _ => by have := wtF_pos t; omega) (nth_memI (by omega) (by omega))) hxw
 have hbk := wtF_bound (nth ts1_ (k : Int))
 have hgk := groupsF_bound (nth ts1_ (k : Int))
 have m11 := e11
 refine wp_seq ?_
 refine wp_seq ?_
 refine region_St (bf := [0, 0, 2, 7]) (sp := [det _ 67 _, det _ 68 _, det _ 69 _, det _ 70 _]) [io r0, iz r1, iz r2, iz r3, ib r4, ib r5] mixed st16 (by kernel_rfl) ⟨r0, r1, r2, r3, r4, r5, trivial⟩
  ⟨Ob.d fun c => r_move rfl (c.p e11),
  Ob.d fun c => r_move rfl (c.p e5),
  Ob.d fun c => r_len rfl Try.underlying23 (c.n 1 rfl) r0.isSl,
  Ob.d fun c => r_lss rfl (c.n 0 rfl) (c.n 2 rfl), trivial⟩ ?_
 intro a17 w17 τ17 st17 f17
 obtain ⟨e4, e5, e7, e8, e9, e10, e11, -⟩ := f17.ks [(4, _), (5, _), (7, _), (8, _), (9, _), (10, _), (11, _)] ⟨e4, e5, e7, e8, e9, e10, e11, trivial⟩
 have e70 : get a17 70 = (.bool (decide ((k : Int) < (ts1_.length : Int)))) := f17.v 3 rfl
 replace r0 := f17.io 0 rfl
 replace r1 := f17.iz 1 rfl
 replace r2 := f17.iz 2 rfl
 replace r3 := f17.iz 3 rfl
 replace r4 := f17.ib 4 rfl
 replace r5 := f17.ib 5 rfl
 clear f17
 show Code.wp _ _ _ a17 w17
 refine wp_cond_split (t := decide ((k : Int) < (ts1_.length : Int))) e70 (fun hc4 => ?_) (fun hc4 => ?_)
 · try simp only [decide_eq_true_eq] at hc4
   refine wp_skip ?_
   show Code.wp _ _ _ a17 w17
   refine wp_seq ?_
   refine wp_block ?_
   refine wp_seq ?_
   refine region_St (bf := [0, 0, 0, 6, 14, 30, 63, 127]) (sp := [det _ 73 _, det _ 74 _, det _ 75 _, det _ 76 _, det _ 77 _, det _ 78 _, det _ 79 _, det _ 9 _]) [io r0, iz r1, iz r2, iz r3, ib r4, ib r5] mixed st17 (by kernel_rfl) ⟨r0, r1, r2, r3, r4, r5, trivial⟩
    ⟨Ob.d fun c => r_move rfl (c.p e9),
    Ob.d fun c => r_move rfl (c.p e5),
    Ob.d fun c => r_move rfl (c.p e11),
    Ob.d fun c => r_indexAddr rfl Try.underlying23 Try.sizeOf25 (c.n 1 rfl) r0.isSl (c.n 2 rfl) (by first | omega | (dsimp only at *; simp only [List.map_cons, List.map_nil, sumL_cons, sumL_nil]; omega)) (by first | omega | (dsimp only at *; simp only [List.map_cons, List.map_nil, sumL_cons, sumL_nil]; omega)),
    Ob.d fun c => r_loadN (vs := [(.int .i64 ((nth ts1_ ((k : Int))).k)), (.string ((nth ts1_ ((k : Int))).ch)), (.bool ((nth ts1_ ((k : Int))).ng)), (nth ts1_ ((k : Int))).rv.v, (.int .i64 ((nth ts1_ ((k : Int))).mn)), (.int .i64 ((nth ts1_ ((k : Int))).mx)), (.bool ((nth ts1_ ((k : Int))).lz)), (nth ts1_ ((k : Int))).kv.v]) rfl Try.isAgg25 Try.sizeOf25 (c.n 3 rfl) rfl (fun _ _ hj => ((c.io 0 rfl).1.sl).elem (nth_some (i := (k : Int)) (by first | omega | (dsimp only at *; simp only [List.map_cons, List.map_nil, sumL_cons, sumL_nil]; omega)) (by first | omega | (dsimp only at *; simp only [List.map_cons, List.map_nil, sumL_cons, sumL_nil]; omega))) hj),
    Ob.c fun c => ⟨_, _, (e_call1 rfl rfl Try.call26 (c.n 4 rfl)), groups_c (nth ts1_ ((k : Int))) _ (zs (ze (c.iz 1 rfl) (by first | omega | (dsimp only at *; simp only [List.map_cons, List.map_nil, sumL_cons, sumL_nil]; omega)) (by first | omega | (dsimp only at *; simp only [List.map_cons, List.map_nil, sumL_cons, sumL_nil]; omega)))) (by first | omega | (dsimp only at *; simp only [List.map_cons, List.map_nil, sumL_cons, sumL_nil]; omega))⟩,
    Ob.d fun c => r_add rfl (c.n 0 rfl) (c.n 5 rfl) (by first | omega | (dsimp only at *; simp only [List.map_cons, List.map_nil, sumL_cons, sumL_nil]; omega)),
    Ob.d fun c => r_assign rfl (c.n 6 rfl), trivial⟩ ?_
   intro a18 w18 τ18 st18 f18
   obtain ⟨e4, e5, e7, e8, e10, e11, e70, -⟩ := f18.ks [(4, _), (5, _), (7, _), (8, _), (10, _), (11, _), (70, _)] ⟨e4, e5, e7, e8, e10, e11, e70, trivial⟩
   have e9 : get a18 9 = (.int .i64 (sumL ((ts1_.take k).map groupsF) + (groupsF (nth ts1_ ((k : Int)))))) := f18.v 7 rfl
   replace r0 := f18.io 0 rfl
   replace r1 := f18.iz 1 rfl
   replace r2 := f18.iz 2 rfl
   replace r3 := f18.iz 3 rfl
   replace r4 := f18.ib 4 rfl
   replace r5 := f18.ib 5 rfl
   clear f18
   show Code.wp _ _ _ a18 w18
   refine region_St (bf := [0, 0, 0, 6, 14, 30, 63, 127]) (sp := [det _ 80 _, det _ 81 _, det _ 82 _, det _ 83 _, det _ 84 _, det _ 85 _, det _ 86 _, det _ 10 _]) [io r0, iz r1, iz r2, iz r3, ib r4, ib r5] mixed st18 (by kernel_rfl) ⟨r0, r1, r2, r3, r4, r5, trivial⟩
    ⟨Ob.d fun c => r_move rfl (c.p e10),
    Ob.d fun c => r_move rfl (c.p e5),
    Ob.d fun c => r_move rfl (c.p e11),
    Ob.d fun c => r_indexAddr rfl Try.underlying23 Try.sizeOf25 (c.n 1 rfl) r0.isSl (c.n 2 rfl) (by first | omega | (dsimp only at *; simp only [List.map_cons, List.map_nil, sumL_cons, sumL_nil]; omega)) (by first | omega | (dsimp only at *; simp only [List.map_cons, List.map_nil, sumL_cons, sumL_nil]; omega)),
    Ob.d fun c => r_loadN (vs := [(.int .i64 ((nth ts1_ ((k : Int))).k)), (.string ((nth ts1_ ((k : Int))).ch)), (.bool ((nth ts1_ ((k : Int))).ng)), (nth ts1_ ((k : Int))).rv.v, (.int .i64 ((nth ts1_ ((k : Int))).mn)), (.int .i64 ((nth ts1_ ((k : Int))).mx)), (.bool ((nth ts1_ ((k : Int))).lz)), (nth ts1_ ((k : Int))).kv.v]) rfl Try.isAgg25 Try.sizeOf25 (c.n 3 rfl) rfl (fun _ _ hj => ((c.io 0 rfl).1.sl).elem (nth_some (i := (k : Int)) (by first | omega | (dsimp only at *; simp only [List.map_cons, List.map_nil, sumL_cons, sumL_nil]; omega)) (by first | omega | (dsimp only at *; simp only [List.map_cons, List.map_nil, sumL_cons, sumL_nil]; omega))) hj),
    Ob.c fun c => ⟨_, _, (e_call1 rfl rfl Try.call23 (c.n 4 rfl)), deep_c (nth ts1_ ((k : Int))) _ (zs (ze (c.iz 1 rfl) (by first | omega | (dsimp only at *; simp only [List.map_cons, List.map_nil, sumL_cons, sumL_nil]; omega)) (by first | omega | (dsimp only at *; simp only [List.map_cons, List.map_nil, sumL_cons, sumL_nil]; omega)))) (by first | omega | (dsimp only at *; simp only [List.map_cons, List.map_nil, sumL_cons, sumL_nil]; omega))⟩,
    Ob.d fun c => r_max rfl (c.n 0 rfl) (c.n 5 rfl),
    Ob.d fun c => r_assign rfl (c.n 6 rfl), trivial⟩ ?_
   intro a19 w19 τ19 st19 f19
   obtain ⟨e4, e5, e7, e8, e9, e11, e70, -⟩ := f19.ks [(4, _), (5, _), (7, _), (8, _), (9, _), (11, _), (70, _)] ⟨e4, e5, e7, e8, e9, e11, e70, trivial⟩
   have e10 : get a19 10 = (.int .i64 (max (maxL ((ts1_.take k).map deepF)) (deepF (nth ts1_ ((k : Int)))))) := f19.v 7 rfl
   replace r0 := f19.io 0 rfl
   replace r1 := f19.iz 1 rfl
   replace r2 := f19.iz 2 rfl
   replace r3 := f19.iz 3 rfl
   replace r4 := f19.ib 4 rfl
   replace r5 := f19.ib 5 rfl
   clear f19
   show _
   show Code.wp _ _ _ a19 w19
   refine region_St (bf := [0, 1, 3]) (sp := [det _ 71 _, det _ 72 _, det _ 11 _]) [io r0, iz r1, iz r2, iz r3, ib r4, ib r5] mixed st19 (by kernel_rfl) ⟨r0, r1, r2, r3, r4, r5, trivial⟩
    ⟨Ob.d fun c => r_move rfl (c.p e11),
    Ob.d fun c => r_add rfl (c.n 0 rfl) rfl (by first | omega | (dsimp only at *; simp only [List.map_cons, List.map_nil, sumL_cons, sumL_nil]; omega)),
    Ob.d fun c => r_assign rfl (c.n 1 rfl), trivial⟩ ?_
   intro a20 w20 τ20 st20 f20
   obtain ⟨e4, e5, e7, e8, e9, e10, e70, -⟩ := f20.ks [(4, _), (5, _), (7, _), (8, _), (9, _), (10, _), (70, _)] ⟨e4, e5, e7, e8, e9, e10, e70, trivial⟩
   have e11 : get a20 11 = (.int .i64 ((k : Int) + 1)) := f20.v 2 rfl
   replace r0 := f20.io 0 rfl
   replace r1 := f20.iz 1 rfl
   replace r2 := f20.iz 2 rfl
   replace r3 := f20.iz 3 rfl
   replace r4 := f20.ib 4 rfl
   replace r5 := f20.ib 5 rfl
   clear f20
   refine ⟨⟨k + 1, τ20, ?_, st20, (e9.trans (int_eq (by first | rfl | omega | (rw [sum_step (by omega)]) | (rw [maxL_step (by omega)])))), (e10.trans (int_eq (by first | rfl | omega | (rw [sum_step (by omega)]) | (rw [maxL_step (by omega)])))), (e11.trans (int_eq (by first | rfl | omega | (rw [sum_step (by omega)]) | (rw [maxL_step (by omega)])))), e4, e5, e7, e8, r0, r1, r2, r3, r4, r5⟩, ?_⟩
   · omega
   · simp only [m11, e11, intOf]; omega
 try simp only [decide_eq_false_iff_not, Int.not_lt] at hc4
 refine wp_exit ?_
 repeat (with_reducible refine then_exit ?_)
 refine exit_here ?_
 show Code.wp _ _ _ a17 w17
 refine wp_seq ?_
 have hk_ : ts1_.take k = ts1_ := List.take_of_length_le (by omega)
 have gS1 : groupsF t2_ = sumL (ts1_.map groupsF) := by rw [← groupsF_er t2_, hqt2_, (seq_groups _).1, groups_map]
 have gS2 : deepF t2_ = maxL (ts1_.map deepF) := by rw [← deepF_er t2_, hqt2_, (seq_groups _).2, deeps_map]
 have gA1 : groupsF t3_ = sumL (ts1_.map groupsF) := by rw [← groupsF_er t3_, hqt3_, (alt_groups _).1, groups_map]
 have gA2 : deepF t3_ = maxL (ts1_.map deepF) := by rw [← deepF_er t3_, hqt3_, (alt_groups _).2, deeps_map]
 have hb2 := wtF_bound t2_
 have hb3 := wtF_bound t3_
 refine region_St (bf := [0, 1, 0, 7, 15, 31, 63, 31, 255, 511, 1023, 2047, 4095, 2047, 16383, 32767, 65535, 131071, 262143, 131071, 1048575, 2097151, 4194303, 8388607, 16777215, 33554431]) (sp := [det _ 87 _, det _ 88 _, det _ 89 _, det _ 90 _, det _ 91 _, gdet _ 92 _ _, gdet _ 93 _ _, gdet _ 94 _ _, gdet _ 95 _ _, det _ 96 _, det _ 97 _, gdet _ 98 _ _, gdet _ 99 _ _, gdet _ 100 _ _, gdet _ 101 _ _, det _ 102 _, det _ 103 _, gdet _ 104 _ _, gdet _ 105 _ _, gdet _ 106 _ _, gdet _ 107 _ _, det _ 108 _, det _ 109 _, gdet _ 110 _ _, det _ 111 _, det _ 4 _]) [io r0, iz r1, iz r2, iz r3, ib r4, ib r5] mixed st17 (by kernel_rfl) ⟨r0, r1, r2, r3, r4, r5, trivial⟩
  ⟨Ob.d fun c => r_loadN (vs := [(.int .i64 (t2_.k)), (.string (t2_.ch)), (.bool (t2_.ng)), t2_.rv.v, (.int .i64 (t2_.mn)), (.int .i64 (t2_.mx)), (.bool (t2_.lz)), t2_.kv.v]) rfl Try.isAgg25 Try.sizeOf25 ((c.p e7).trans r4.ptr) rfl (fun _ _ hj => (c.ib 4 rfl).cell hj),
  Ob.c fun c => ⟨_, _, (e_call1 rfl rfl Try.call26 (c.n 0 rfl)), groups_c t2_ _ (zs (c.iz 2 rfl)) (by first | omega | (dsimp only at *; simp only [List.map_cons, List.map_nil, sumL_cons, sumL_nil]; omega))⟩,
  Ob.d fun c => r_move rfl (c.p e9),
  Ob.d fun c => r_eql rfl (c.n 1 rfl) (c.n 2 rfl),
  Ob.d fun c => r_move rfl (c.n 3 rfl),
  Ob.g 4 true rfl fun c hpc => r_loadN (vs := [(.int .i64 (t3_.k)), (.string (t3_.ch)), (.bool (t3_.ng)), t3_.rv.v, (.int .i64 (t3_.mn)), (.int .i64 (t3_.mx)), (.bool (t3_.lz)), t3_.kv.v]) rfl Try.isAgg25 Try.sizeOf25 ((c.p e8).trans r5.ptr) rfl (fun _ _ hj => (c.ib 5 rfl).cell hj),
  Ob.gc 4 true rfl fun c hpc => ⟨_, _, (e_call1 rfl rfl Try.call26 (c.m 5 rfl hpc)), groups_c t3_ _ (zs (c.iz 3 rfl)) (by have hq0 := bt hpc; first | omega | (dsimp only at *; simp only [List.map_cons, List.map_nil, sumL_cons, sumL_nil]; omega))⟩,
  Ob.g 4 true rfl fun c hpc => r_move rfl (c.p e9),
  Ob.g 4 true rfl fun c hpc => r_eql rfl (c.m 6 rfl hpc) (c.m 7 rfl hpc),
  Ob.d fun c => r_and rfl (c.n 4 rfl) (fun h => c.m 8 rfl h),
  Ob.d fun c => r_move rfl (c.n 9 rfl),
  Ob.g 10 true rfl fun c hpc => r_loadN (vs := [(.int .i64 (t2_.k)), (.string (t2_.ch)), (.bool (t2_.ng)), t2_.rv.v, (.int .i64 (t2_.mn)), (.int .i64 (t2_.mx)), (.bool (t2_.lz)), t2_.kv.v]) rfl Try.isAgg25 Try.sizeOf25 ((c.p e7).trans r4.ptr) rfl (fun _ _ hj => (c.ib 4 rfl).cell hj),
  Ob.gc 10 true rfl fun c hpc => ⟨_, _, (e_call1 rfl rfl Try.call23 (c.m 11 rfl hpc)), deep_c t2_ _ (zs (c.iz 2 rfl)) (by have hq0 := hpc; (try simp only [Bool.and_eq_true, decide_eq_true_eq] at hq0); first | omega | (dsimp only at *; simp only [List.map_cons, List.map_nil, sumL_cons, sumL_nil]; omega))⟩,
  Ob.g 10 true rfl fun c hpc => r_move rfl (c.p e10),
  Ob.g 10 true rfl fun c hpc => r_eql rfl (c.m 12 rfl hpc) (c.m 13 rfl hpc),
  Ob.d fun c => r_and rfl (c.n 10 rfl) (fun h => c.m 14 rfl h),
  Ob.d fun c => r_move rfl (c.n 15 rfl),
  Ob.g 16 true rfl fun c hpc => r_loadN (vs := [(.int .i64 (t3_.k)), (.string (t3_.ch)), (.bool (t3_.ng)), t3_.rv.v, (.int .i64 (t3_.mn)), (.int .i64 (t3_.mx)), (.bool (t3_.lz)), t3_.kv.v]) rfl Try.isAgg25 Try.sizeOf25 ((c.p e8).trans r5.ptr) rfl (fun _ _ hj => (c.ib 5 rfl).cell hj),
  Ob.gc 16 true rfl fun c hpc => ⟨_, _, (e_call1 rfl rfl Try.call23 (c.m 17 rfl hpc)), deep_c t3_ _ (zs (c.iz 3 rfl)) (by have hq0 := hpc; (try simp only [Bool.and_eq_true, decide_eq_true_eq] at hq0); first | omega | (dsimp only at *; simp only [List.map_cons, List.map_nil, sumL_cons, sumL_nil]; omega))⟩,
  Ob.g 16 true rfl fun c hpc => r_move rfl (c.p e10),
  Ob.g 16 true rfl fun c hpc => r_eql rfl (c.m 18 rfl hpc) (c.m 19 rfl hpc),
  Ob.d fun c => r_and rfl (c.n 16 rfl) (fun h => c.m 20 rfl h),
  Ob.d fun c => r_move rfl (c.n 21 rfl),
  Ob.gc 22 true rfl fun c hpc => ⟨_, _, (e_call0 rfl rfl Try.call10), awake_c _⟩,
  Ob.d fun c => r_and rfl (c.n 22 rfl) (fun h => c.m 23 rfl h),
  Ob.d fun c => r_assign rfl (c.n 24 rfl), trivial⟩ ?_
 intro a21 w21 τ21 st21 f21
 have e4 : get a21 4 = (.bool (((((decide (groupsF t2_ = sumL ((ts1_.take k).map groupsF))) && (decide (groupsF t3_ = sumL ((ts1_.take k).map groupsF)))) && (decide (deepF t2_ = maxL ((ts1_.take k).map deepF)))) && (decide (deepF t3_ = maxL ((ts1_.take k).map deepF)))) && true)) := f21.v 25 rfl
 replace r1 := f21.iz 1 rfl
 replace r2 := f21.iz 2 rfl
 replace r3 := f21.iz 3 rfl
 clear f21
 show Code.wp _ _ _ a21 w21
 refine wp_ret ?_
 repeat (first | with_reducible refine then_ret ?_ | with_reducible refine block_ret ?_)
 refine ret1 (fn := Try.f8) rfl st21.defers e4 ?_
 exact ⟨congrArg _ (congrArg _ (show (((((decide (groupsF t2_ = sumL ((ts1_.take k).map groupsF))) && (decide (groupsF t3_ = sumL ((ts1_.take k).map groupsF)))) && (decide (deepF t2_ = maxL ((ts1_.take k).map deepF)))) && (decide (deepF t3_ = maxL ((ts1_.take k).map deepF)))) && true) = true from by rw [gS1, gA1, gS2, gA2, hk_]; simp)), st21.ext0⟩
end B
end Go.Proofs.Ytocmchlhbniloaa
namespace Go.Proofs.Ytocmchlhbniloaa
open Go.ChangeShapes Go.WideShapes Go.ChangeAt Go.RowKit
namespace B
theorem ownK : ownKnob Try.prog.godebug = none := by kernel_rfl
theorem laidOut : laidOutB Try.prog = true := by kernel_rfl
theorem reads9 : Reads Try.prog 9 StrE := reads_str Try.underlying9
theorem seqTwice_contract (H : Type) (enc : TypeId × Value → H) (W : World) (base : Nat) (args : Array Value) (ds gs : List (DataW H)) (before : List MemPlace)
    (hval : ∀ (j : Nat) t v, Try.f8.params[j]? = some t → args[j]? = some v → Value.okWide Try.prog W .any base t v)
    (hW : DataW.Whole enc Try.prog Try.f8.params.toList Rows.seqTwiceSpec.vars false W args.toList ds gs before) :
    Calls Try.prog 8 args W fun e W' => ∃ v, e = .returned v ∧ Rows.seqTwiceSpec.post enc Try.prog Try.f8 false true false false W args v W' := by
  have hW' := hW
  obtain ⟨p, q, hA0, hV, rfl, hfz, hnd⟩ := hW
  have hA : DataW.TrodAll enc Try.prog W 0 (fun _ => true) true Try.f8.params.toList args.toList ds p := hA0
  rw [Try.params8] at hA hval
  obtain ⟨v0, vs0, d0, ds0, p0, q0, hargs0, rfl, rfl, h0, r0⟩ := trodAll_cons hA
  obtain ⟨v1, vs1, d1, ds1, p1, q1, hargs1, rfl, rfl, h1, r1⟩ := trodAll_cons r0
  obtain ⟨rfl, rfl, rfl⟩ := trodAll_nil r1
  subst hargs1
  obtain rfl : args = #[v0, v1] := by cases args; simp_all
  obtain ⟨x0, s0⟩ := open_sl (E := StrE) Try.underlying32 (by kernel_rfl) reads9 (hval 0 32 v0 rfl rfl) h0
  obtain ⟨x1, rfl, b1⟩ := open_i64 Try.underlying3 (hval 1 3 v1 rfl rfl) h1
  exact (seqTwice_c v0 x0 x1 W s0).mono fun e W' ⟨he, hx⟩ => ⟨_, he, post_true laidOut hW' rfl (by kernel_rfl) rfl rfl Try.underlying4 hx⟩
set_option maxRecDepth 100000 in
theorem seqTwice_lifted (os : Os) (started : os.Started) (H : Type) (enc : TypeId × Value → H) :
    ReturnsInHanded {} Try.checked os 8 .any (Rows.seqTwiceSpec.pre6 enc Try.prog Try.f8 Rows.seqTwiceRow.domain false) (Rows.seqTwiceSpec.post enc Try.prog Try.f8 false true false false) := by
  refine returnsInHanded_of_change (C := Try.checked) ownK started (by kernel_rfl) Try.func8
    (ChangeSpec.witness6 (enc := enc) (C := Try.checked) false ⟨#[], #[.slice none 0 0, .int .i64 0], []⟩ 8 (by kernel_rfl) (by kernel_rfl) (by kernel_rfl) (by kernel_rfl)) ?_
  intro W base args ds gs before hval hW _ _
  exact seqTwice_contract H enc W base args ds gs before hval hW
theorem seqTwice_holds : Rows.SeqTwiceSaid :=
  OpenClaim.holds_of_wide 8 Try.f8 rfl rfl rfl rfl rfl rfl rfl ⟨rfl, rfl, rfl, rfl, rfl⟩ rfl rfl rfl rfl rfl (by kernel_rfl) Try.func8 (by kernel_rfl)
    (of_decide_eq_true (by kernel_rfl)) (by unfold Func.isWrapper; first | (rw [if_pos (by decide +kernel)]; kernel_rfl) | (rw [if_neg (by decide +kernel)]; exact ⟨rfl, rfl⟩))
    (fun os started H enc _ => seqTwice_lifted os started H enc)
end B
end Go.Proofs.Ytocmchlhbniloaa
