/-
  Own texts, put together by a program (flat.py): RdI, RdJ, TreeM, RdK, RdL, LawSeqMay.
-/
import Derived.Test.YtocmchlhbniloaaFm5
import Derived.Test.YtocmchlhbniloaaRows
import Derived.ChangeMaps5
set_option linter.unusedSimpArgs false
set_option linter.unusedVariables false
set_option linter.unusedSectionVars false
namespace Go.Proofs.Ytocmchlhbniloaa
namespace B
open Go.RowKit
open Srt
theorem pat_err {cs : List ByteArray} {g : Nat} {d : Int} {j : Nat} {A T : List Tr} (hm : moreB cs j = true) (he : ¬ (termF (fun d j => patF cs g d j [] []) cs d j).2.1 = 0) : patF cs (g + 1) d j A T = (leaf0, (termF (fun d j => patF cs g d j [] []) cs d j).2.1, (termF (fun d j => patF cs g d j [] []) cs d j).2.2) := by
  rw [patF, if_pos hm, if_pos he]
theorem pat_term {cs : List ByteArray} {g : Nat} {d : Int} {j : Nat} {A T : List Tr} (hm : moreB cs j = true) (he : (termF (fun d j => patF cs g d j [] []) cs d j).2.1 = 0) : patF cs (g + 1) d j A T = patF cs g d (termF (fun d j => patF cs g d j [] []) cs d j).2.2 A (T ++ [(termF (fun d j => patF cs g d j [] []) cs d j).1]) := by
  rw [patF, if_pos hm, if_neg (fun h => h he)]
theorem pat_alt {cs : List ByteArray} {g : Nat} {d : Int} {j : Nat} {A T : List Tr} (hm : moreB cs j = false) (ht : tkF cs j ⟨#[124]⟩ = true) : patF cs (g + 1) d j A T = patF cs g d (j + 1) (A ++ [seqF T]) [] := by
  rw [patF, if_neg (by rw [hm]; decide), if_pos ht]
theorem pat_end {cs : List ByteArray} {g : Nat} {d : Int} {j : Nat} {A T : List Tr} (hm : moreB cs j = false) (ht : tkF cs j ⟨#[124]⟩ = false) : patF cs (g + 1) d j A T = (altF (A ++ [seqF T]), 0, j) := by
  rw [patF, if_neg (by rw [hm]; decide), if_neg (by rw [ht]; decide)]
theorem wts_pos (l : List Tr) : 0 ≤ sumL (l.map wtF) := sumL_pos fun x hx => by
  obtain ⟨k, _, rfl⟩ := List.mem_map.1 hx
  have := wtF_pos k; omega
theorem ers_snoc (l : List Tr) (t : Tr) : (l ++ [t]).map er = l.map er ++ [er t] := by simp
theorem len_wt (l : List Tr) : (l.length : Int) ≤ sumL (l.map wtF) := by
  induction l using snoc_ind with
  | h0 => exact Int.le_refl _
  | h1 l x ih =>
    rw [List.map_append, List.map_cons, List.map_nil, sumL_snoc, List.length_append]
    have := wtF_pos x
    simp; omega
set_option maxRecDepth 100000 in
set_option maxHeartbeats 4000000 in
theorem pat_step (v : Value) (cv : Sv) (cs : List ByteArray) (hL : CsOk cs) (hP : CsP cs) (F0 : Nat) (ih : ∀ g < F0, ∀ (d : Int) (i : Nat) (w : World), RdR 58 v cv cs i w → i ≤ cs.length → cs.length < g + i → 0 ≤ d ∧ d ≤ 16 → Calls Try.prog 39 #[v, .int .i64 d] w (fun e w' => ∃ t' : Tr, e = .returned (.tuple #[t'.v, .int .i64 (patF cs g d i [] []).2.1]) ∧ Ext (ptrFoot v) w w' ∧ boxR 58 [cv.v, .int .i64 (((patF cs g d i [] []).2.2 : Nat) : Int)] (ptrFoot v) v w' ∧ TrT (Gn none' w) w' t' ∧ er t' = (patF cs g d i [] []).1)) (d : Int) (i : Nat) (w : World) (hR : RdR 58 v cv cs i w) (hi : i ≤ cs.length) (hf : cs.length < F0 + i) (hd : 0 ≤ d ∧ d ≤ 16) : Calls Try.prog 39 #[v, .int .i64 d] w (fun e w' => ∃ t' : Tr, e = .returned (.tuple #[t'.v, .int .i64 (patF cs F0 d i [] []).2.1]) ∧ Ext (ptrFoot v) w w' ∧ boxR 58 [cv.v, .int .i64 (((patF cs F0 d i [] []).2.2 : Nat) : Int)] (ptrFoot v) v w' ∧ TrT (Gn none' w) w' t' ∧ er t' = (patF cs F0 d i [] []).1) := by
 refine enterIn (ptrFoot v) (fun g hg => hR.box.lt g hg) (n := 54) Try.func39 rfl rfl (Nat.le_of_ble_eq_true rfl) ?_
 intro a0 τ0 ha hτ st0
 have e0 : get a0 0 = v := ha 0 _ rfl
 have e1 : get a0 1 = (.int .i64 (d)) := ha 1 _ rfl
 clear ha
 have hL1 := hL.1
 have r0 : boxR 58 [cv.v, .int .i64 ((i : Nat) : Int)] (τ0 0) v w := by rw [hτ]; exact hR.box
 have r9 : Fz (zSl StrE Al cv.v cs) τ0 w := hR.inz st0
 refine wp_seq ?_
 refine region_St (bf := [0, 0]) (sp := [box _ _ 1 4 [(.int .i64 (0)), (.string ((⟨#[]⟩ : ByteArray))), (.bool (false)), (.slice none 0 0), (.int .i64 (0)), (.int .i64 (0)), (.bool (false)), (.slice none 0 0)], det _ 5 _]) [ib r0, Ini.any _, Ini.any _, Ini.any _, Ini.any _, Ini.any _, Ini.any _, Ini.any _, Ini.any _, iz r9] mixed st0 (by kernel_rfl) ⟨r0, trivial, trivial, trivial, trivial, trivial, trivial, trivial, trivial, r9, trivial⟩
  ⟨Ob.alloc rfl rfl rfl rfl Try.zeroValue25 rfl,
  Ob.d fun c => r_assign rfl rfl, trivial⟩ ?_
 intro a1 w1 τ1 st1 f1
 obtain ⟨b1x4, e4⟩ : ∃ b, get a1 4 = b := ⟨_, rfl⟩
 obtain ⟨e0, e1, -⟩ := f1.ks [(0, _), (1, _)] ⟨e0, e1, trivial⟩
 have e5 : get a1 5 = (.int .i64 (0)) := f1.v 1 rfl
 replace r0 := f1.ib 0 rfl
 have r1 : boxR 25 [(.int .i64 (0)), (.string ((⟨#[]⟩ : ByteArray))), (.bool (false)), (.slice none 0 0), (.int .i64 (0)), (.int .i64 (0)), (.bool (false)), (.slice none 0 0)] (τ1 1) b1x4 w1 := f1.rb 0 e4 rfl
 replace r9 := f1.iz 9 rfl
 clear f1
 show Code.wp _ _ _ a1 w1
 refine wp_seq ?_
 refine region_St (bf := [0]) (sp := [det _ 6 _]) [ib r0, ib r1, Ini.any _, Ini.any _, Ini.any _, Ini.any _, Ini.any _, Ini.any _, Ini.any _, iz r9] mixed st1 (by kernel_rfl) ⟨r0, r1, trivial, trivial, trivial, trivial, trivial, trivial, trivial, r9, trivial⟩
  ⟨Ob.d fun c => r_assign rfl rfl, trivial⟩ ?_
 intro a2 w2 τ2 st2 f2
 obtain ⟨e0, e1, e4, e5, -⟩ := f2.ks [(0, _), (1, _), (4, _), (5, _)] ⟨e0, e1, e4, e5, trivial⟩
 have e6 : get a2 6 = (.slice none 0 0) := f2.v 0 rfl
 replace r0 := f2.ib 0 rfl
 replace r1 := f2.ib 1 rfl
 replace r9 := f2.iz 9 rfl
 clear f2
 show Code.wp _ _ _ a2 w2
 refine wp_block ?_
 refine wp_loop (fun a_ w_ => ∃ (j f : Nat) (u : Value) (al : List Tr) (τ : Nat → Foot), (i ≤ j ∧ j ≤ cs.length) ∧
      (cs.length < f + j ∧ f ≤ F0) ∧
      (SoFar (al.map er) [] i j d) ∧
      (patF cs F0 d i [] [] = patF cs f d j (al.map er) []) ∧
      St (fun k => ptrFoot v k ∨ w.heap.size ≤ k) w 54 a_ w_ τ ∧
      get a_ 6 = u ∧
      get a_ 0 = v ∧
      get a_ 1 = (.int .i64 (d)) ∧
      get a_ 4 = b1x4 ∧
      boxR 58 [cv.v, (.int .i64 (((j : Nat) : Int)))] (τ 0) v w_ ∧
      ownR TrE 25 (al) (τ 5) u w_ ∧
      Fz (zTl (Gn none' w) al) τ w_ ∧
      boxR 25 [(.int .i64 (0)), (.string ((⟨#[]⟩ : ByteArray))), (.bool (false)), (.slice none 0 0), (.int .i64 (0)), (.int .i64 (0)), (.bool (false)), (.slice none 0 0)] (τ 1) b1x4 w_ ∧
      Fz (zSl StrE Al cv.v cs) τ w_) (fun a_ w_ => cs.length + 10 - rdAt v w_) ?_ ?_
 · refine ⟨i, F0, (.slice none 0 0), [], τ2, ?_, ?_, ?_, ?_, st2, e6, e0, e1, e4, r0, ?_, ?_, r1, r9⟩
   · omega
   · omega
   · exact SoFar.start i d
   · rfl
   · exact ownR.nil _ _ _ _
   · exact Fz.tn _ _ _
 intro a3 w3 hI
 obtain ⟨j, f, u, al, τ3, q0, q1, q2, q3, st3, e6, e0, e1, e4, r0, r5, r6, r1, r9⟩ := hI
 have hm0 := rdAt_eq r0
 have p0 := q0
 have p1 := q1
 have p2 := q2
 have p3 := q3
 refine wp_block ?_
 refine wp_seq ?_
 refine region_St (bf := [0]) (sp := [det _ 7 _]) [ib r0, ib r1, Ini.any _, Ini.any _, Ini.any _, io r5, iz r6, Ini.any _, Ini.any _, iz r9] mixed st3 (by kernel_rfl) ⟨r0, r1, trivial, trivial, trivial, r5, r6, trivial, trivial, r9, trivial⟩
  ⟨Ob.d fun c => r_assign rfl rfl, trivial⟩ ?_
 intro a4 w4 τ4 st4 f4
 obtain ⟨e0, e1, e4, e6, -⟩ := f4.ks [(0, _), (1, _), (4, _), (6, _)] ⟨e0, e1, e4, e6, trivial⟩
 have e7 : get a4 7 = (.slice none 0 0) := f4.v 0 rfl
 replace r0 := f4.ib 0 rfl
 replace r1 := f4.ib 1 rfl
 replace r5 := f4.io 5 rfl
 replace r6 := f4.iz 6 rfl
 replace r9 := f4.iz 9 rfl
 clear f4
 show Code.wp _ _ _ a4 w4
 refine wp_seq ?_
 refine wp_block ?_
 refine wp_loop (fun a_ w_ => ∃ (m h : Nat) (y : Value) (ts : List Tr) (τ : Nat → Foot), (j ≤ m ∧ m ≤ cs.length) ∧
      (cs.length < h + m ∧ h ≤ F0) ∧
      (SoFar (al.map er) (ts.map er) i m d) ∧
      (patF cs f d j (al.map er) [] = patF cs h d m (al.map er) (ts.map er)) ∧
      St (fun k => ptrFoot v k ∨ w.heap.size ≤ k) w 54 a_ w_ τ ∧
      get a_ 7 = y ∧
      get a_ 0 = v ∧
      get a_ 1 = (.int .i64 (d)) ∧
      get a_ 4 = b1x4 ∧
      get a_ 6 = u ∧
      boxR 58 [cv.v, (.int .i64 (((m : Nat) : Int)))] (τ 0) v w_ ∧
      ownR TrE 25 (ts) (τ 7) y w_ ∧
      Fz (zTl (Gn none' w) ts) τ w_ ∧
      boxR 25 [(.int .i64 (0)), (.string ((⟨#[]⟩ : ByteArray))), (.bool (false)), (.slice none 0 0), (.int .i64 (0)), (.int .i64 (0)), (.bool (false)), (.slice none 0 0)] (τ 1) b1x4 w_ ∧
      ownR TrE 25 (al) (τ 5) u w_ ∧
      Fz (zTl (Gn none' w) al) τ w_ ∧
      Fz (zSl StrE Al cv.v cs) τ w_) (fun a_ w_ => cs.length + 10 - rdAt v w_) ?_ ?_
 · refine ⟨j, f, (.slice none 0 0), [], τ4, ?_, ?_, ?_, ?_, st4, e7, e0, e1, e4, e6, r0, ?_, ?_, r1, r5, r6, r9⟩
   · omega
   · omega
   · exact p2
   · rfl
   · exact ownR.nil _ _ _ _
   · exact Fz.tn _ _ _
 intro a5 w5 hI
 obtain ⟨m, h, y, ts, τ5, q0, q1, q2, q3, st5, e7, e0, e1, e4, e6, r0, r7, r8, r1, r5, r6, r9⟩ := hI
 obtain ⟨g, rfl⟩ : ∃ g, h = g + 1 := ⟨h - 1, by omega⟩
 have hm1 := rdAt_eq r0
 have s2 := q2
 have hwt := s2.wt
 rw [wt_map, wt_map] at hwt
 have hw1 := wts_pos al
 have hw2 := wts_pos ts
 have hpl := s2.parts
 have hla : (al.length : Int) ≤ sumL (al.map wtF) := len_wt al
 have hlt2 : (ts.length : Int) ≤ sumL (ts.map wtF) := len_wt ts
 refine wp_seq ?_
 refine wp_seq ?_
 refine region_St (bf := [0, 1, 3, 7, 0, 16, 48, 112, 240, 511, 1023, 2047, 4095, 8191, 16383, 32767, 65535, 131071, 262143, 524287]) (sp := [det _ 10 _, det _ 11 _, det _ 12 _, det _ 13 _, det _ 14 _, det _ 15 _, det _ 16 _, det _ 17 _, det _ 18 _, det _ 19 _, det _ 20 _, gdet _ 21 _ _, gdet _ 22 _ _, gdet _ 23 _ _, det _ 24 _, det _ 25 _, gdet _ 26 _ _, gdet _ 27 _ _, gdet _ 28 _ _, det _ 29 _]) [ib r0, ib r1, Ini.any _, Ini.any _, Ini.any _, io r5, iz r6, io r7, iz r8, iz r9] mixed st5 (by kernel_rfl) ⟨r0, r1, trivial, trivial, trivial, r5, r6, r7, r8, r9, trivial⟩
  ⟨Ob.d fun c => r_move rfl (c.p e0),
  Ob.d fun c => r_nilCheck rfl (c.n 0 rfl) r0.ptr,
  Ob.d fun c => r_fieldAddr rfl Try.underlying58 rfl rfl Try.sizeOf3 ((c.n 1 rfl).trans r0.ptr),
  Ob.d fun c => r_load1 rfl Try.isAgg3 (c.n 2 rfl) ((c.ib 0 rfl).cell (j := 1) rfl),
  Ob.d fun c => r_move rfl (c.p e0),
  Ob.d fun c => r_nilCheck rfl (c.n 4 rfl) r0.ptr,
  Ob.d fun c => r_fieldAddr rfl Try.underlying58 rfl rfl Try.sizeOf32 ((c.n 5 rfl).trans r0.ptr),
  Ob.d fun c => r_load1 rfl Try.isAgg32 (c.n 6 rfl) ((c.ib 0 rfl).cell (j := 0) rfl),
  Ob.d fun c => r_len rfl Try.underlying32 (c.n 7 rfl) (r9).1.sl,
  Ob.d fun c => r_lss rfl (c.n 3 rfl) (c.n 8 rfl),
  Ob.d fun c => r_move rfl (c.n 9 rfl),
  Ob.g 10 true rfl fun c hpc => r_move rfl (c.p e0),
  Ob.gc 10 true rfl fun c hpc => ⟨_, _, (e_call1 rfl rfl Try.call47 (c.m 11 rfl hpc)), see_c v cv cs m _ (rdr (c.ib 0 rfl) (c.iz 9 rfl) (fun g_ h_ hz_ => hz_.2 _ h_))⟩,
  Ob.g 10 true rfl fun c hpc => r_sneq rfl (c.m 12 rfl hpc) rfl,
  Ob.d fun c => r_and rfl (c.n 10 rfl) (fun h => c.m 13 rfl h),
  Ob.d fun c => r_move rfl (c.n 14 rfl),
  Ob.g 15 true rfl fun c hpc => r_move rfl (c.p e0),
  Ob.gc 15 true rfl fun c hpc => ⟨_, _, (e_call1 rfl rfl Try.call47 (c.m 16 rfl hpc)), see_c v cv cs m _ (rdr (c.ib 0 rfl) (c.iz 9 rfl) (fun g_ h_ hz_ => hz_.2 _ h_))⟩,
  Ob.g 15 true rfl fun c hpc => r_sneq rfl (c.m 17 rfl hpc) rfl,
  Ob.d fun c => r_and rfl (c.n 15 rfl) (fun h => c.m 18 rfl h), trivial⟩ ?_
 intro a6 w6 τ6 st6 f6
 obtain ⟨e0, e1, e4, e6, e7, -⟩ := f6.ks [(0, _), (1, _), (4, _), (6, _), (7, _)] ⟨e0, e1, e4, e6, e7, trivial⟩
 have e29 : get a6 29 = (.bool (((decide (((m : Nat) : Int) < (cs.length : Int))) && (!(eqT (seeF cs m) (⟨#[124]⟩ : ByteArray)))) && (!(eqT (seeF cs m) (⟨#[41]⟩ : ByteArray))))) := f6.v 19 rfl
 replace r0 := f6.ib 0 rfl
 replace r1 := f6.ib 1 rfl
 replace r5 := f6.io 5 rfl
 replace r6 := f6.iz 6 rfl
 replace r7 := f6.io 7 rfl
 replace r8 := f6.iz 8 rfl
 replace r9 := f6.iz 9 rfl
 clear f6
 show Code.wp _ _ _ a6 w6
 refine wp_cond_split (t := ((decide (((m : Nat) : Int) < (cs.length : Int))) && (!(eqT (seeF cs m) (⟨#[124]⟩ : ByteArray)))) && (!(eqT (seeF cs m) (⟨#[41]⟩ : ByteArray)))) e29 (fun hc1 => ?_) (fun hc1 => ?_)
 · have hd1 := hc1; try simp only [Bool.and_eq_true, Bool.and_eq_false_iff, Bool.not_eq_true', Bool.not_eq_false', decide_eq_true_eq, decide_eq_false_iff_not, Int.not_lt] at hd1
   refine wp_skip ?_
   show Code.wp _ _ _ a6 w6
   refine wp_block ?_
   refine wp_seq ?_
   refine region_of_ops ?_
   refine ops_cut 3 (by kernel_rfl) ?_
   refine ops_St (bf := [0, 0, 3]) (sp := [det _ 31 _, det _ 32 _, zbox 58 _ 0 33 (v) (fun b : Tr => [cv.v, .int .i64 (((termF (fun d j => patF cs g d j [] []) cs d m).2.2 : Nat) : Int)]) (fun b : Tr => .tuple #[b.v, .int .i64 (termF (fun d j => patF cs g d j [] []) cs d m).2.1]) (fun b : Tr => er b = (termF (fun d j => patF cs g d j [] []) cs d m).1) (fun b : Tr => zTr (Gn none' w) b)]) [ib r0, ib r1, Ini.any _, Ini.any _, Ini.any _, io r5, iz r6, io r7, iz r8, iz r9] st6 (by kernel_rfl) ⟨r0, r1, trivial, trivial, trivial, r5, r6, r7, r8, r9, trivial⟩
    ⟨Ob.d fun c => r_move rfl (c.p e0),
    Ob.d fun c => r_move rfl (c.p e1),
    Ob.zb (cells := fun b : Tr => [cv.v, .int .i64 (((termF (fun d j => patF cs g d j [] []) cs d m).2.2 : Nat) : Int)]) (f := fun b : Tr => .tuple #[b.v, .int .i64 (termF (fun d j => patF cs g d j [] []) cs d m).2.1]) (Ψ := fun b : Tr => er b = (termF (fun d j => patF cs g d j [] []) cs d m).1) (Φ := fun b : Tr => zTr (Gn none' w) b) fun {_ a_ _ _} c => ⟨_, _, (e_call2 rfl rfl Try.call48 (c.n 0 rfl) (c.n 1 rfl)), (term_c (fun d j => patF cs g d j [] []) d v cv cs m _ (rdr (c.ib 0 rfl) (c.iz 9 rfl) (fun g_ h_ hz_ => hz_.2 _ h_)) hL (by first | omega | (simp only [List.map_append, List.map_cons, List.map_nil, sumL_app, sumL_cons, sumL_nil]; omega)) hd (fun d2_ j_ w2_ hR_ hij_ hjl_ hd_ => ih g (by omega) d2_ j_ w2_ hR_ hjl_ (by omega) hd_) (fun d_ j_ hh_ => pat_le cs g d_ j_ [] [] hh_)).mono (fun e w' ⟨b_, he_, hx_, hb_, ht_, hq_⟩ => ⟨b_, he_, (c.ib 0 rfl).ext hx_, hb_.back (c.ib 0 rfl), hq_, c.tns st6 hx_.size ht_⟩)⟩, trivial⟩ ?_
   intro a7 w7 τ7 st7 f7
   obtain ⟨e0, e1, e4, e6, e7, e29, -⟩ := f7.ks [(0, _), (1, _), (4, _), (6, _), (7, _), (29, _)] ⟨e0, e1, e4, e6, e7, e29, trivial⟩
   obtain ⟨t1_, e33, hro7, hqt1_, hz7⟩ := f7.zb 2 rfl
   have e33 : get a7 33 = (.tuple #[(.agg #[(.int .i64 (t1_.k)), (.string (t1_.ch)), (.bool (t1_.ng)), t1_.rv.v, (.int .i64 (t1_.mn)), (.int .i64 (t1_.mx)), (.bool (t1_.lz)), t1_.kv.v]), (.int .i64 ((termF (fun d j => patF cs g d j [] []) cs d m).2.1))]) := e33
   replace r0 : boxR 58 [cv.v, (.int .i64 ((((termF (fun d j => patF cs g d j [] []) cs d m).2.2 : Nat) : Int)))] (τ7 0) v w7 := hro7
   replace r1 := f7.ib 1 rfl
   replace r5 := f7.io 5 rfl
   replace r6 := f7.iz 6 rfl
   replace r7 := f7.io 7 rfl
   replace r8 := f7.iz 8 rfl
   replace r9 := f7.iz 9 rfl
   have r2 : Fz (zTr (Gn none' w) t1_) τ7 w7 := hz7
   clear f7
   refine only_mk ?_
   refine ops_St (bf := [0, 1, 3, 7, 15, 31]) (sp := [det _ 30 _, det _ 34 _, det _ 35 _, box _ _ 3 8 [(.int .i64 (0)), (.string ((⟨#[]⟩ : ByteArray))), (.bool (false)), (.slice none 0 0), (.int .i64 (0)), (.int .i64 (0)), (.bool (false)), (.slice none 0 0)], box _ _ 3 8 [(.int .i64 (t1_.k)), (.string (t1_.ch)), (.bool (t1_.ng)), t1_.rv.v, (.int .i64 (t1_.mn)), (.int .i64 (t1_.mx)), (.bool (t1_.lz)), t1_.kv.v], det _ 9 _]) [ib r0, ib r1, iz r2, Ini.any _, Ini.any _, io r5, iz r6, io r7, iz r8, iz r9] st7 (by kernel_rfl) ⟨r0, r1, r2, trivial, trivial, r5, r6, r7, r8, r9, trivial⟩
    ⟨Ob.d fun c => r_move rfl (c.p e33),
    Ob.d fun c => r_extract rfl (c.n 0 rfl) rfl,
    Ob.d fun c => r_extract rfl (c.n 0 rfl) rfl,
    Ob.alloc rfl rfl rfl rfl Try.zeroValue25 rfl,
    Ob.storeBox (off := 0) (v := (.agg #[(.int .i64 (t1_.k)), (.string (t1_.ch)), (.bool (t1_.ng)), t1_.rv.v, (.int .i64 (t1_.mn)), (.int .i64 (t1_.mx)), (.bool (t1_.lz)), t1_.kv.v])) rfl rfl rfl rfl Try.sizeOf25 (Nat.le_of_ble_eq_true rfl) (by simp [Value.cells, Value.oneCell', Sv.v]) rfl (fun _ _ _ _ c => ⟨c.rb 3 rfl, (c.rb 3 rfl).ptr, (c.n 1 rfl)⟩),
    Ob.d fun c => r_assign rfl (c.n 2 rfl), trivial⟩ ?_
   intro a8 w8 τ8 st8 f8
   obtain ⟨b8x8, e8⟩ : ∃ b, get a8 8 = b := ⟨_, rfl⟩
   obtain ⟨e0, e1, e4, e6, e7, e29, -⟩ := f8.ks [(0, _), (1, _), (4, _), (6, _), (7, _), (29, _)] ⟨e0, e1, e4, e6, e7, e29, trivial⟩
   have e9 : get a8 9 = (.int .i64 ((termF (fun d j => patF cs g d j [] []) cs d m).2.1)) := f8.v 5 rfl
   replace r0 := f8.ib 0 rfl
   replace r1 := f8.ib 1 rfl
   replace r2 := f8.iz 2 rfl
   have r3 : boxR 25 [(.int .i64 (t1_.k)), (.string (t1_.ch)), (.bool (t1_.ng)), t1_.rv.v, (.int .i64 (t1_.mn)), (.int .i64 (t1_.mx)), (.bool (t1_.lz)), t1_.kv.v] (τ8 3) b8x8 w8 := f8.rb 4 e8 rfl
   replace r5 := f8.io 5 rfl
   replace r6 := f8.iz 6 rfl
   replace r7 := f8.io 7 rfl
   replace r8 := f8.iz 8 rfl
   replace r9 := f8.iz 9 rfl
   clear f8
   show Code.wp _ _ _ a8 w8
   refine wp_seq ?_
   refine wp_seq ?_
   refine region_St (bf := [0, 1]) (sp := [det _ 36 _, det _ 37 _]) [ib r0, ib r1, iz r2, ib r3, Ini.any _, io r5, iz r6, io r7, iz r8, iz r9] mixed st8 (by kernel_rfl) ⟨r0, r1, r2, r3, trivial, r5, r6, r7, r8, r9, trivial⟩
    ⟨Ob.d fun c => r_move rfl (c.p e9),
    Ob.d fun c => r_neq rfl (c.n 0 rfl) rfl, trivial⟩ ?_
   intro a9 w9 τ9 st9 f9
   obtain ⟨e0, e1, e4, e6, e7, e8, e9, e29, -⟩ := f9.ks [(0, _), (1, _), (4, _), (6, _), (7, _), (8, _), (9, _), (29, _)] ⟨e0, e1, e4, e6, e7, e8, e9, e29, trivial⟩
   have e37 : get a9 37 = (.bool (!decide ((termF (fun d j => patF cs g d j [] []) cs d m).2.1 = 0))) := f9.v 1 rfl
   replace r0 := f9.ib 0 rfl
   replace r1 := f9.ib 1 rfl
   replace r2 := f9.iz 2 rfl
   replace r3 := f9.ib 3 rfl
   replace r5 := f9.io 5 rfl
   replace r6 := f9.iz 6 rfl
   replace r7 := f9.io 7 rfl
   replace r8 := f9.iz 8 rfl
   replace r9 := f9.iz 9 rfl
   clear f9
   show Code.wp _ _ _ a9 w9
   refine wp_cond_split (t := !decide ((termF (fun d j => patF cs g d j [] []) cs d m).2.1 = 0)) e37 (fun hc2 => ?_) (fun hc2 => ?_)
   · try simp only [Bool.not_eq_true', Bool.not_eq_false', decide_eq_true_eq, decide_eq_false_iff_not] at hc2
     refine wp_seq ?_
     refine region_St (bf := [0, 0, 1, 7]) (sp := [det _ 38 _, det _ 39 _, box _ _ 1 4 [(.int .i64 (0)), (.string ((⟨#[]⟩ : ByteArray))), (.bool (false)), (.slice none 0 0), (.int .i64 (0)), (.int .i64 (0)), (.bool (false)), (.slice none 0 0)], det _ 5 _]) [ib r0, ib r1, iz r2, ib r3, Ini.any _, io r5, iz r6, io r7, iz r8, iz r9] mixed st9 (by kernel_rfl) ⟨r0, r1, r2, r3, trivial, r5, r6, r7, r8, r9, trivial⟩
      ⟨Ob.d fun c => r_build (cells := #[(.int .i64 (0)), (.string ((⟨#[]⟩ : ByteArray))), (.bool (false)), (.slice none 0 0), (.int .i64 (0)), (.int .i64 (0)), (.bool (false)), (.slice none 0 0)]) rfl Try.underlying25 Try.zeroValue25 (pl := #[(0, 1), (1, 1), (2, 1), (3, 1), (4, 1), (5, 1), (6, 1), (7, 1)]) (fun w_ => by simp [Try.sizeOf22, Try.sizeOf23, Try.sizeOf3, Try.sizeOf4, Try.sizeOf9]) (by simp only [List.map_toArray, List.map_nil]; rfl),
      Ob.d fun c => r_move rfl (c.p e9),
      Ob.storeBox (off := 0) (v := (.agg #[(.int .i64 (0)), (.string ((⟨#[]⟩ : ByteArray))), (.bool (false)), (.slice none 0 0), (.int .i64 (0)), (.int .i64 (0)), (.bool (false)), (.slice none 0 0)])) rfl rfl rfl rfl Try.sizeOf25 (Nat.le_of_ble_eq_true rfl) (by simp [Value.cells, Value.oneCell', Sv.v]) rfl (fun _ _ _ _ c => ⟨c.bp 1 rfl e4, c.ad ((c.p e4).trans r1.ptr) e4 rfl, (c.n 0 rfl)⟩),
      Ob.d fun c => r_assign rfl (c.n 1 rfl), trivial⟩ ?_
     intro a10 w10 τ10 st10 f10
     obtain ⟨e0, e1, e4, e6, e7, e8, e9, e29, e37, -⟩ := f10.ks [(0, _), (1, _), (4, _), (6, _), (7, _), (8, _), (9, _), (29, _), (37, _)] ⟨e0, e1, e4, e6, e7, e8, e9, e29, e37, trivial⟩
     have e5 : get a10 5 = (.int .i64 ((termF (fun d j => patF cs g d j [] []) cs d m).2.1)) := f10.v 3 rfl
     replace r0 := f10.ib 0 rfl
     replace r1 : boxR 25 [(.int .i64 (0)), (.string ((⟨#[]⟩ : ByteArray))), (.bool (false)), (.slice none 0 0), (.int .i64 (0)), (.int .i64 (0)), (.bool (false)), (.slice none 0 0)] (τ10 1) b1x4 w10 := f10.rb 2 e4 rfl
     replace r2 := f10.iz 2 rfl
     replace r3 := f10.ib 3 rfl
     replace r5 := f10.io 5 rfl
     replace r6 := f10.iz 6 rfl
     replace r7 := f10.io 7 rfl
     replace r8 := f10.iz 8 rfl
     replace r9 := f10.iz 9 rfl
     clear f10
     show Code.wp _ _ _ a10 w10
     refine wp_ret ?_
     repeat (first | with_reducible refine then_ret ?_ | with_reducible refine block_ret ?_)
     refine ret2c (fn := Try.f39) rfl st10.defers e4 e5 r1 Try.isAgg25 Try.sizeOf25 rfl ?_
     have he_ : patF cs F0 d i [] [] = ((leafT 0 (⟨#[]⟩ : ByteArray) false 0 0 false), (termF (fun d j => patF cs g d j [] []) cs d m).2.1, (termF (fun d j => patF cs g d j [] []) cs d m).2.2) := by rw [p3, q3, pat_err (by assumption) (by assumption)]; (try rfl)
     rw [he_]
     exact ⟨(leafT 0 (⟨#[]⟩ : ByteArray) false 0 0 false), rfl, st10.extIn, r0.foot, (leafTr _ _ _ _ _ _ _ _), rfl⟩
   try simp only [Bool.not_eq_true', Bool.not_eq_false', decide_eq_true_eq, decide_eq_false_iff_not] at hc2
   refine wp_skip ?_
   show Code.wp _ _ _ a9 w9
   have he0 : (termF (fun d j => patF cs g d j [] []) cs d m).2.1 = 0 := by assumption
   have htle := term_le (fun d_ j_ hh_ => pat_le cs g d_ j_ [] [] hh_) he0
   refine region_St (bf := [0, 0, 2, 7, 15]) (sp := [det _ 40 _, det _ 41 _, own TrE 25 _ 4 42 ([t1_]), own _ _ _ 7 43 _, own _ _ _ 7 7 _]) [ib r0, ib r1, iz r2, ib r3, Ini.any _, io r5, iz r6, io r7, iz r8, iz r9] mixed st9 (by kernel_rfl) ⟨r0, r1, r2, r3, trivial, r5, r6, r7, r8, r9, trivial⟩
    ⟨Ob.d fun c => r_move rfl (c.p e7),
    Ob.d fun c => r_loadN (vs := [(.int .i64 (t1_.k)), (.string (t1_.ch)), (.bool (t1_.ng)), t1_.rv.v, (.int .i64 (t1_.mn)), (.int .i64 (t1_.mx)), (.bool (t1_.lz)), t1_.kv.v]) rfl Try.isAgg25 Try.sizeOf25 ((c.p e8).trans r3.ptr) rfl (fun _ _ hj => (c.ib 3 rfl).cell hj),
    Ob.buildSlice (cells := #[(.int .i64 (t1_.k)), (.string (t1_.ch)), (.bool (t1_.ng)), t1_.rv.v, (.int .i64 (t1_.mn)), (.int .i64 (t1_.mx)), (.bool (t1_.lz)), t1_.kv.v]) rfl rfl rfl rfl Try.underlying23 Try.sizeOf25 Try.zeroValue25 rfl (by decide) (by decide) (fun _ _ _ _ c => fill1 (c.n 1 rfl) (by kernel_rfl)) rfl,
    Ob.append (t0 := 7) rfl rfl rfl rfl Try.underlying23 (i := Try.t25) rfl rfl rfl rfl (by simp only [maxLen]; (try simp); omega) (by show _ * 104 ≤ _; (try simp); omega) (fun _ _ _ _ c => ⟨c.ip 7 rfl e7, c.sm (c.n 0 rfl) e7, ⟨_, rfl, (c.ro 2 rfl).1.sl⟩⟩),
    Ob.moveT (t0 := 43) rfl rfl rfl rfl rfl (.inr rfl) (fun _ _ _ _ c => ⟨c.ro 3 rfl, rfl⟩), trivial⟩ ?_
   intro a11 w11 τ11 st11 f11
   obtain ⟨b11x42, e42⟩ : ∃ b, get a11 42 = b := ⟨_, rfl⟩
   obtain ⟨b11x7, e7⟩ : ∃ b, get a11 7 = b := ⟨_, rfl⟩
   obtain ⟨e0, e1, e4, e6, e8, e9, e29, e37, -⟩ := f11.ks [(0, _), (1, _), (4, _), (6, _), (8, _), (9, _), (29, _), (37, _)] ⟨e0, e1, e4, e6, e8, e9, e29, e37, trivial⟩
   replace r0 := f11.ib 0 rfl
   replace r1 := f11.ib 1 rfl
   replace r2 := f11.iz 2 rfl
   replace r3 := f11.ib 3 rfl
   have r4 : ownR TrE 25 ([t1_]) (τ11 4) b11x42 w11 := f11.ro 2 e42 rfl
   replace r5 := f11.io 5 rfl
   replace r6 := f11.iz 6 rfl
   replace r7 : ownR TrE 25 (ts ++ [t1_]) (τ11 7) b11x7 w11 := f11.ro 4 e7 rfl
   replace r8 := f11.iz 8 rfl
   replace r9 := f11.iz 9 rfl
   clear f11
   show _
   refine ⟨⟨(termF (fun d j => patF cs g d j [] []) cs d m).2.2, g, b11x7, ts ++ [t1_], τ11, ?_, ?_, ?_, ?_, st11, e7, e0, e1, e4, e6, r0, ?_, ?_, r1, r5, r6, r9⟩, ?_⟩
   · omega
   · omega
   · rw [ers_snoc, hqt1_]; exact s2.term (term_law hL hP (fun d_ j_ hh_ => pat_le cs g d_ j_ [] [] hh_) (fun d_ j_ hd_ hh_ => pat_law hL hP g d_ j_ j_ [] [] hd_ (SoFar.start j_ d_) hh_) hd.2 he0) (by omega)
   · rw [q3, pat_term (by assumption) he0, ers_snoc, hqt1_]
   · exact r7.cast (by rfl)
   · exact Fz.snoc r8 r2
   · rw [hm1, rdAt_eq r0]; omega
 have hd2 := hc1; try simp only [Bool.and_eq_true, Bool.and_eq_false_iff, Bool.not_eq_true', Bool.not_eq_false', decide_eq_true_eq, decide_eq_false_iff_not, Int.not_lt] at hd2
 refine wp_exit ?_
 repeat (with_reducible refine then_exit ?_)
 refine exit_here ?_
 show Code.wp _ _ _ a6 w6
 refine wp_seq ?_
 refine region_of_ops ?_
 refine ops_cut 3 (by kernel_rfl) ?_
 refine ops_St (bf := [0, 0, 2]) (sp := [det _ 44 _, det _ 45 _, zdet _ 46 (fun b : Tr => b.v) (fun b : Tr => er b = seqF (ts.map er)) (fun b : Tr => zTr (Gn none' w) b)]) [ib r0, ib r1, Ini.any _, Ini.any _, Ini.any _, io r5, iz r6, io r7, iz r8, iz r9] st6 (by kernel_rfl) ⟨r0, r1, trivial, trivial, trivial, r5, r6, r7, r8, r9, trivial⟩
  ⟨Ob.d fun c => r_move rfl (c.p e6),
  Ob.d fun c => r_move rfl (c.p e7),
  Ob.zc (f := fun b : Tr => b.v) (Ψ := fun b : Tr => er b = seqF (ts.map er)) (Φ := fun b : Tr => zTr (Gn none' w) b) fun {_ a_ _ _} c => ⟨_, _, (e_call1 rfl rfl Try.call14 (c.n 1 rfl)), (refSeq_c _ y ts _ (zl (c.iz 8 rfl) (c.io 7 rfl).1.sl).sl (c.iz 8 rfl) (by first | omega | (simp only [List.map_append, List.map_cons, List.map_nil, sumL_app, sumL_cons, sumL_nil]; omega))).mono (fun e w' ⟨t_, he_, hx_, ht_, hq_⟩ => ⟨t_, he_, hx_, hq_, c.tz st6 hx_ ht_⟩)⟩, trivial⟩ ?_
 intro a12 w12 τ12 st12 f12
 obtain ⟨e0, e1, e4, e6, e7, e29, -⟩ := f12.ks [(0, _), (1, _), (4, _), (6, _), (7, _), (29, _)] ⟨e0, e1, e4, e6, e7, e29, trivial⟩
 have e44 : get a12 44 = u := f12.v 0 rfl
 obtain ⟨t2_, e46, hqt2_, hz12⟩ := f12.zd 2 rfl
 have e46 : get a12 46 = (.agg #[(.int .i64 (t2_.k)), (.string (t2_.ch)), (.bool (t2_.ng)), t2_.rv.v, (.int .i64 (t2_.mn)), (.int .i64 (t2_.mx)), (.bool (t2_.lz)), t2_.kv.v]) := e46
 have hwt2_ := wt_seqb hqt2_
 replace r0 := f12.ib 0 rfl
 replace r1 := f12.ib 1 rfl
 replace r5 := f12.io 5 rfl
 replace r6 := f12.iz 6 rfl
 replace r7 := f12.io 7 rfl
 replace r8 := f12.iz 8 rfl
 replace r9 := f12.iz 9 rfl
 have r2 : Fz (zTr (Gn none' w) t2_) τ12 w12 := hz12
 clear f12
 refine only_mk ?_
 refine ops_St (bf := [0, 1, 3]) (sp := [own TrE 25 _ 3 47 ([t2_]), own _ _ _ 5 48 _, own _ _ _ 5 6 _]) [ib r0, ib r1, iz r2, Ini.any _, Ini.any _, io r5, iz r6, io r7, iz r8, iz r9] st12 (by kernel_rfl) ⟨r0, r1, r2, trivial, trivial, r5, r6, r7, r8, r9, trivial⟩
  ⟨Ob.buildSlice (cells := #[(.int .i64 (t2_.k)), (.string (t2_.ch)), (.bool (t2_.ng)), t2_.rv.v, (.int .i64 (t2_.mn)), (.int .i64 (t2_.mx)), (.bool (t2_.lz)), t2_.kv.v]) rfl rfl rfl rfl Try.underlying23 Try.sizeOf25 Try.zeroValue25 rfl (by decide) (by decide) (fun _ _ _ _ c => fill1 (c.p e46) (by kernel_rfl)) rfl,
  Ob.append (t0 := 6) rfl rfl rfl rfl Try.underlying23 (i := Try.t25) rfl rfl rfl rfl (by simp only [maxLen]; (try simp); omega) (by show _ * 104 ≤ _; (try simp); omega) (fun _ _ _ _ c => ⟨c.ip 5 rfl e6, c.sm (c.p e44) e6, ⟨_, rfl, (c.ro 0 rfl).1.sl⟩⟩),
  Ob.moveT (t0 := 48) rfl rfl rfl rfl rfl (.inr rfl) (fun _ _ _ _ c => ⟨c.ro 1 rfl, rfl⟩), trivial⟩ ?_
 intro a13 w13 τ13 st13 f13
 obtain ⟨b13x47, e47⟩ : ∃ b, get a13 47 = b := ⟨_, rfl⟩
 obtain ⟨b13x6, e6⟩ : ∃ b, get a13 6 = b := ⟨_, rfl⟩
 obtain ⟨e0, e1, e4, e7, e29, -⟩ := f13.ks [(0, _), (1, _), (4, _), (7, _), (29, _)] ⟨e0, e1, e4, e7, e29, trivial⟩
 replace r0 := f13.ib 0 rfl
 replace r1 := f13.ib 1 rfl
 replace r2 := f13.iz 2 rfl
 have r3 : ownR TrE 25 ([t2_]) (τ13 3) b13x47 w13 := f13.ro 0 e47 rfl
 replace r5 : ownR TrE 25 (al ++ [t2_]) (τ13 5) b13x6 w13 := f13.ro 2 e6 rfl
 replace r6 := f13.iz 6 rfl
 replace r7 := f13.io 7 rfl
 replace r8 := f13.iz 8 rfl
 replace r9 := f13.iz 9 rfl
 clear f13
 show Code.wp _ _ _ a13 w13
 refine wp_seq ?_
 refine region_St (bf := [0, 1, 3]) (sp := [det _ 49 _, dbox 58 _ 0 50 v [cv.v, (.int .i64 (((tkN cs m (⟨#[124]⟩ : ByteArray) : Nat) : Int)))] (.bool (tkF cs m (⟨#[124]⟩ : ByteArray))), det _ 51 _]) [ib r0, ib r1, iz r2, io r3, Ini.any _, io r5, iz r6, io r7, iz r8, iz r9] mixed st13 (by kernel_rfl) ⟨r0, r1, r2, r3, trivial, r5, r6, r7, r8, r9, trivial⟩
  ⟨Ob.d fun c => r_move rfl (c.p e0),
  Ob.db fun {_ a_ _ _} c => ⟨_, _, (e_call2 rfl rfl Try.call49 (c.n 0 rfl) rfl), db_of (c.ib 0 rfl) (take_c v cv cs m (⟨#[124]⟩ : ByteArray) _ (rdr (c.ib 0 rfl) (c.iz 9 rfl) (fun g_ h_ hz_ => hz_.2 _ h_)) hL (by first | omega | (simp only [List.map_append, List.map_cons, List.map_nil, sumL_app, sumL_cons, sumL_nil]; omega)))⟩,
  Ob.d fun c => r_not rfl (c.dv 1 rfl), trivial⟩ ?_
 intro a14 w14 τ14 st14 f14
 obtain ⟨e0, e1, e4, e6, e7, e29, -⟩ := f14.ks [(0, _), (1, _), (4, _), (6, _), (7, _), (29, _)] ⟨e0, e1, e4, e6, e7, e29, trivial⟩
 have e51 : get a14 51 = (.bool (!(tkF cs m (⟨#[124]⟩ : ByteArray)))) := f14.v 2 rfl
 replace r0 : boxR 58 [cv.v, (.int .i64 (((tkN cs m (⟨#[124]⟩ : ByteArray) : Nat) : Int)))] (τ14 0) v w14 := f14.db 1 rfl
 replace r1 := f14.ib 1 rfl
 replace r2 := f14.iz 2 rfl
 replace r3 := f14.io 3 rfl
 replace r5 := f14.io 5 rfl
 replace r6 := f14.iz 6 rfl
 replace r7 := f14.io 7 rfl
 replace r8 := f14.iz 8 rfl
 replace r9 := f14.iz 9 rfl
 clear f14
 show Code.wp _ _ _ a14 w14
 refine wp_cond_split (t := !(tkF cs m (⟨#[124]⟩ : ByteArray))) e51 (fun hc3 => ?_) (fun hc3 => ?_)
 · try simp only [Bool.not_eq_true', Bool.not_eq_false'] at hc3
   have htk3 : tkF cs m (⟨#[124]⟩ : ByteArray) = false := by simpa using hc3
   rw [tkN_f htk3] at r0
   refine wp_seq ?_
   refine region_of_ops ?_
   refine ops_cut 2 (by kernel_rfl) ?_
   refine ops_St (bf := [0, 1]) (sp := [det _ 52 _, zdet _ 53 (fun b : Tr => b.v) (fun b : Tr => er b = altF ((al ++ [t2_]).map er)) (fun b : Tr => zTr (Gn none' w) b)]) [ib r0, ib r1, iz r2, io r3, Ini.any _, io r5, iz r6, io r7, iz r8, iz r9] st14 (by kernel_rfl) ⟨r0, r1, r2, r3, trivial, r5, r6, r7, r8, r9, trivial⟩
    ⟨Ob.d fun c => r_move rfl (c.p e6),
    Ob.zc (f := fun b : Tr => b.v) (Ψ := fun b : Tr => er b = altF ((al ++ [t2_]).map er)) (Φ := fun b : Tr => zTr (Gn none' w) b) fun {_ a_ _ _} c => ⟨_, _, (e_call1 rfl rfl Try.call16 (c.n 0 rfl)), (refAlt_c _ b13x6 (al ++ [t2_]) _ (zl (zapp (c.iz 6 rfl) (zcons (c.iz 2 rfl) znil)) (c.io 5 rfl).1.sl).sl (zapp (c.iz 6 rfl) (zcons (c.iz 2 rfl) znil)) (by first | omega | (simp only [List.map_append, List.map_cons, List.map_nil, sumL_app, sumL_cons, sumL_nil]; omega))).mono (fun e w' ⟨t_, he_, hx_, ht_, hq_⟩ => ⟨t_, he_, hx_, hq_, c.tz st14 hx_ ht_⟩)⟩, trivial⟩ ?_
   intro a15 w15 τ15 st15 f15
   obtain ⟨e0, e1, e4, e6, e7, e29, e51, -⟩ := f15.ks [(0, _), (1, _), (4, _), (6, _), (7, _), (29, _), (51, _)] ⟨e0, e1, e4, e6, e7, e29, e51, trivial⟩
   obtain ⟨t3_, e53, hqt3_, hz15⟩ := f15.zd 1 rfl
   have e53 : get a15 53 = (.agg #[(.int .i64 (t3_.k)), (.string (t3_.ch)), (.bool (t3_.ng)), t3_.rv.v, (.int .i64 (t3_.mn)), (.int .i64 (t3_.mx)), (.bool (t3_.lz)), t3_.kv.v]) := e53
   have hwt3_ := wt_altb hqt3_
   replace r0 := f15.ib 0 rfl
   replace r1 := f15.ib 1 rfl
   replace r2 := f15.iz 2 rfl
   replace r3 := f15.io 3 rfl
   replace r5 := f15.io 5 rfl
   replace r6 := f15.iz 6 rfl
   replace r7 := f15.io 7 rfl
   replace r8 := f15.iz 8 rfl
   replace r9 := f15.iz 9 rfl
   have r4 : Fz (zTr (Gn none' w) t3_) τ15 w15 := hz15
   clear f15
   refine only_mk ?_
   refine ops_St (bf := [0, 1]) (sp := [box _ _ 1 4 [(.int .i64 (t3_.k)), (.string (t3_.ch)), (.bool (t3_.ng)), t3_.rv.v, (.int .i64 (t3_.mn)), (.int .i64 (t3_.mx)), (.bool (t3_.lz)), t3_.kv.v], det _ 5 _]) [ib r0, ib r1, iz r2, io r3, iz r4, io r5, iz r6, io r7, iz r8, iz r9] st15 (by kernel_rfl) ⟨r0, r1, r2, r3, r4, r5, r6, r7, r8, r9, trivial⟩
    ⟨Ob.storeBox (off := 0) (v := (.agg #[(.int .i64 (t3_.k)), (.string (t3_.ch)), (.bool (t3_.ng)), t3_.rv.v, (.int .i64 (t3_.mn)), (.int .i64 (t3_.mx)), (.bool (t3_.lz)), t3_.kv.v])) rfl rfl rfl rfl Try.sizeOf25 (Nat.le_of_ble_eq_true rfl) (by simp [Value.cells, Value.oneCell', Sv.v]) rfl (fun _ _ _ _ c => ⟨c.bp 1 rfl e4, c.ad ((c.p e4).trans r1.ptr) e4 rfl, (c.p e53)⟩),
    Ob.d fun c => r_assign rfl rfl, trivial⟩ ?_
   intro a16 w16 τ16 st16 f16
   obtain ⟨e0, e1, e4, e6, e7, e29, e51, -⟩ := f16.ks [(0, _), (1, _), (4, _), (6, _), (7, _), (29, _), (51, _)] ⟨e0, e1, e4, e6, e7, e29, e51, trivial⟩
   have e5 : get a16 5 = (.int .i64 (0)) := f16.v 1 rfl
   replace r0 := f16.ib 0 rfl
   replace r1 : boxR 25 [(.int .i64 (t3_.k)), (.string (t3_.ch)), (.bool (t3_.ng)), t3_.rv.v, (.int .i64 (t3_.mn)), (.int .i64 (t3_.mx)), (.bool (t3_.lz)), t3_.kv.v] (τ16 1) b1x4 w16 := f16.rb 0 e4 rfl
   replace r2 := f16.iz 2 rfl
   replace r3 := f16.io 3 rfl
   replace r4 := f16.iz 4 rfl
   replace r5 := f16.io 5 rfl
   replace r6 := f16.iz 6 rfl
   replace r7 := f16.io 7 rfl
   replace r8 := f16.iz 8 rfl
   replace r9 := f16.iz 9 rfl
   clear f16
   show Code.wp _ _ _ a16 w16
   refine wp_ret ?_
   repeat (first | with_reducible refine then_ret ?_ | with_reducible refine block_ret ?_)
   refine ret2c (fn := Try.f39) rfl st16.defers e4 e5 r1 Try.isAgg25 Try.sizeOf25 rfl ?_
   have he_ : patF cs F0 d i [] [] = ((er t3_), 0, m) := by rw [p3, q3, pat_end (by assumption) (by assumption), hqt3_, ers_snoc, hqt2_]
   rw [he_]
   exact ⟨t3_, rfl, st16.extIn, r0.foot, r4.out, rfl⟩
 try simp only [Bool.not_eq_true', Bool.not_eq_false'] at hc3
 have htk3 : tkF cs m (⟨#[124]⟩ : ByteArray) = true := by simpa using hc3
 have htl3 := tk_lt htk3
 rw [tkN_t htk3] at r0
 refine wp_skip ?_
 show _
 refine ⟨⟨m + 1, g, b13x6, al ++ [t2_], τ14, ?_, ?_, ?_, ?_, st14, e6, e0, e1, e4, r0, ?_, ?_, r1, r9⟩, ?_⟩
 · omega
 · omega
 · rw [ers_snoc, hqt2_]; exact s2.alt hd.2
 · rw [p3, q3, pat_alt (by assumption) (by assumption), ers_snoc, hqt2_]; (try rfl)
 · exact r5.cast (by rfl)
 · exact Fz.snoc r6 r2
 · rw [hm0, rdAt_eq r0]; omega
theorem pat_all (v : Value) (cv : Sv) (cs : List ByteArray) (hL : CsOk cs) (hP : CsP cs) (F0 : Nat) : ∀ (d : Int) (i : Nat) (w : World), RdR 58 v cv cs i w → i ≤ cs.length → cs.length < F0 + i → 0 ≤ d ∧ d ≤ 16 → Calls Try.prog 39 #[v, .int .i64 d] w (fun e w' => ∃ t' : Tr, e = .returned (.tuple #[t'.v, .int .i64 (patF cs F0 d i [] []).2.1]) ∧ Ext (ptrFoot v) w w' ∧ boxR 58 [cv.v, .int .i64 (((patF cs F0 d i [] []).2.2 : Nat) : Int)] (ptrFoot v) v w' ∧ TrT (Gn none' w) w' t' ∧ er t' = (patF cs F0 d i [] []).1) := by
  induction F0 using Nat.strongRecOn with
  | _ F0 ih => exact fun d i w hR hi hf hd => pat_step v cv cs hL hP F0 ih d i w hR hi hf hd
end B
end Go.Proofs.Ytocmchlhbniloaa
namespace Go.Proofs.Ytocmchlhbniloaa
namespace B
open Go.RowKit
open Srt
theorem spS_le (s : ByteArray) (n : Nat) (hn : n ≤ s.size) : (spS s n).1.length ≤ n ∧ (spS s n).2 ≤ n ∧ ∀ c ∈ (spS s n).1, c.size ≤ s.size := by
  induction n with
  | zero => exact ⟨Nat.le_refl _, Nat.le_refl _, fun c hc => by simp [spS] at hc⟩
  | succ n ih =>
    obtain ⟨h1, h2, h3⟩ := ih (by omega)
    rw [spS, spStep]
    split
    · refine ⟨by simp; omega, Nat.le_refl _, fun c hc => ?_⟩
      rcases List.mem_append.1 hc with hc | hc
      · exact h3 c hc
      · simp at hc; subst hc
        rw [ByteArray.size_extract]; omega
    · exact ⟨by omega, by omega, h3⟩
theorem split_ok {s : ByteArray} (h : s.size ≤ 256) : CsOk (splitF s) := by
  obtain ⟨h1, _, h3⟩ := spS_le s s.size (Nat.le_refl _)
  exact ⟨Nat.le_trans h1 h, fun c hc => Nat.le_trans (h3 c hc) h⟩
theorem proper_extract {s : ByteArray} {i e : Nat} (h1 : i < e) (h2 : e ≤ s.size) (h3 : inB (byteAt s (i : Int)) = false) (h4 : ∀ m, i < m → m < e → inB (byteAt s (m : Int)) = true) : properB (s.extract i e) = true := by
  have hl := bs_len s
  have hi : i < (bs s).length := by omega
  unfold properB
  rw [bs_extract, seg, List.drop_eq_getElem_cons hi, show e - i = (e - i - 1) + 1 by omega, List.take_succ_cons]
  have h5 : byteAt s (i : Int) = (((bs s)[i]).toNat : Int) := byteAt_eq (List.getElem?_eq_getElem hi)
  rw [h5] at h3
  simp only [inU, h3, Bool.not_false, Bool.true_and, List.all_eq_true]
  intro x hx
  obtain ⟨q, hq, rfl⟩ := List.getElem_of_mem hx
  simp only [List.length_take, List.length_drop] at hq
  have h6 := h4 (i + 1 + q) (by omega) (by omega)
  have h7 : i + 1 + q < (bs s).length := by omega
  rw [byteAt_eq (List.getElem?_eq_getElem h7)] at h6
  rw [List.getElem_take, List.getElem_drop]
  exact h6
theorem spS_proper (s : ByteArray) (k : Nat) (hk : k ≤ s.size) : (∀ i : Nat, 1 ≤ i → i < (spS s k).1.length → properB (nth (spS s k).1 (i : Int)) = true) ∧ ((spS s k).1 ≠ [] → (spS s k).2 < s.size → inB (byteAt s ((spS s k).2 : Int)) = false) ∧ (∀ m, (spS s k).2 < m → m ≤ k → m < s.size → inB (byteAt s (m : Int)) = true) := by
  induction k with
  | zero => exact ⟨fun i h1 h2 => by simp [spS] at h2, fun h => absurd rfl h, fun m h1 h2 h3 => by omega⟩
  | succ k ih =>
    obtain ⟨a, b, c⟩ := ih (by omega)
    have hfr := spS_from s k
    rw [spS, spStep]
    split
    · rename_i hc
      refine ⟨fun i h1 h2 => ?_, fun _ h => ?_, fun m h1 h2 h3 => ?_⟩
      · simp only [List.length_append, List.length_cons, List.length_nil] at h2
        by_cases hlt : i < (spS s k).1.length
        · have := a i h1 hlt
          rw [nth_lt hlt |> fun h => nth_of (xs := (spS s k).1 ++ [s.extract (spS s k).2 (k + 1)]) (by rw [List.getElem?_append_left hlt]; exact h)]
          exact this
        · obtain rfl : i = (spS s k).1.length := by omega
          rw [nth_of (xs := (spS s k).1 ++ [s.extract (spS s k).2 (k + 1)]) (x := s.extract (spS s k).2 (k + 1)) (by rw [List.getElem?_append_right (Nat.le_refl _)]; simp)]
          have hne : (spS s k).1 ≠ [] := fun e => by rw [e] at h1; simp at h1
          exact proper_extract (by omega) hk (b hne (by omega)) fun m h3 h4 => c m h3 (by omega) (by omega)
      · simp only [Bool.or_eq_true, decide_eq_true_eq] at hc
        simp only [] at h
        rcases hc with hc | hc
        · omega
        · rw [lead_eq] at hc; simpa using hc
      · simp only [] at h1; omega
    · rename_i hc
      refine ⟨a, b, fun m h1 h2 h3 => ?_⟩
      by_cases e : m = k + 1
      · subst e
        simp only [Bool.or_eq_true, decide_eq_true_eq, not_or] at hc
        have := hc.2
        rw [lead_eq] at this; simpa using this
      · exact c m h1 (by omega) h3
theorem split_proper (s : ByteArray) : CsP (splitF s) := fun i h1 h2 => (spS_proper s s.size (Nat.le_refl _)).1 i h1 h2
set_option maxRecDepth 100000 in
set_option maxHeartbeats 4000000 in
theorem read_c (s : ByteArray) (w : World) : Calls Try.prog 33 #[(.string (s))] w (fun e w' => ∃ t' : Tr, e = .returned (.tuple #[t'.v, .int .i64 (readF s).2]) ∧ Ext none' w w' ∧ TrT (Gn none' w) w' t' ∧ er t' = (readF s).1) := by
 refine enter (n := 39) Try.func33 rfl rfl (Nat.le_of_ble_eq_true rfl) ?_
 intro a0 τ0 ha st0
 have e0 : get a0 0 = (.string (s)) := ha 0 _ rfl
 clear ha
 refine wp_seq ?_
 refine region_St (bf := [0, 0]) (sp := [box _ _ 0 2 [(.int .i64 (0)), (.string ((⟨#[]⟩ : ByteArray))), (.bool (false)), (.slice none 0 0), (.int .i64 (0)), (.int .i64 (0)), (.bool (false)), (.slice none 0 0)], det _ 3 _]) [] mixed st0 (by kernel_rfl) trivial
  ⟨Ob.alloc rfl rfl rfl rfl Try.zeroValue25 rfl,
  Ob.d fun c => r_assign rfl rfl, trivial⟩ ?_
 intro a1 w1 τ1 st1 f1
 obtain ⟨b1x2, e2⟩ : ∃ b, get a1 2 = b := ⟨_, rfl⟩
 obtain ⟨e0, -⟩ := f1.ks [(0, _)] ⟨e0, trivial⟩
 have e3 : get a1 3 = (.int .i64 (0)) := f1.v 1 rfl
 have r0 : boxR 25 [(.int .i64 (0)), (.string ((⟨#[]⟩ : ByteArray))), (.bool (false)), (.slice none 0 0), (.int .i64 (0)), (.int .i64 (0)), (.bool (false)), (.slice none 0 0)] (τ1 0) b1x2 w1 := f1.rb 0 e2 rfl
 clear f1
 show Code.wp _ _ _ a1 w1
 refine wp_seq ?_
 refine wp_seq ?_
 refine region_St (bf := [0, 1, 3]) (sp := [det _ 7 _, det _ 8 _, det _ 9 _]) [ib r0] mixed st1 (by kernel_rfl) ⟨r0, trivial⟩
  ⟨Ob.d fun c => r_move rfl (c.p e0),
  Ob.d fun c => r_lenS rfl Try.underlying9 (c.n 0 rfl),
  Ob.d fun c => r_gtr rfl (c.n 1 rfl) rfl, trivial⟩ ?_
 intro a2 w2 τ2 st2 f2
 obtain ⟨e0, e2, e3, -⟩ := f2.ks [(0, _), (2, _), (3, _)] ⟨e0, e2, e3, trivial⟩
 have e9 : get a2 9 = (.bool (decide (256 < (s.size : Int)))) := f2.v 2 rfl
 replace r0 := f2.ib 0 rfl
 clear f2
 show Code.wp _ _ _ a2 w2
 refine wp_cond_split (t := decide (256 < (s.size : Int))) e9 (fun hc1 => ?_) (fun hc1 => ?_)
 · try simp only [decide_eq_true_eq] at hc1
   refine wp_seq ?_
   refine region_St (bf := [0, 1, 3]) (sp := [det _ 10 _, box _ _ 0 2 [(.int .i64 (0)), (.string ((⟨#[]⟩ : ByteArray))), (.bool (false)), (.slice none 0 0), (.int .i64 (0)), (.int .i64 (0)), (.bool (false)), (.slice none 0 0)], det _ 3 _]) [ib r0] mixed st2 (by kernel_rfl) ⟨r0, trivial⟩
    ⟨Ob.d fun c => r_build (cells := #[(.int .i64 (0)), (.string ((⟨#[]⟩ : ByteArray))), (.bool (false)), (.slice none 0 0), (.int .i64 (0)), (.int .i64 (0)), (.bool (false)), (.slice none 0 0)]) rfl Try.underlying25 Try.zeroValue25 (pl := #[(0, 1), (1, 1), (2, 1), (3, 1), (4, 1), (5, 1), (6, 1), (7, 1)]) (fun w_ => by simp [Try.sizeOf22, Try.sizeOf23, Try.sizeOf3, Try.sizeOf4, Try.sizeOf9]) (by simp only [List.map_toArray, List.map_nil]; rfl),
    Ob.storeBox (off := 0) (v := (.agg #[(.int .i64 (0)), (.string ((⟨#[]⟩ : ByteArray))), (.bool (false)), (.slice none 0 0), (.int .i64 (0)), (.int .i64 (0)), (.bool (false)), (.slice none 0 0)])) rfl rfl rfl rfl Try.sizeOf25 (Nat.le_of_ble_eq_true rfl) (by simp [Value.cells, Value.oneCell', Sv.v]) rfl (fun _ _ _ _ c => ⟨c.bp 0 rfl e2, c.ad ((c.p e2).trans r0.ptr) e2 rfl, (c.n 0 rfl)⟩),
    Ob.d fun c => r_assign rfl rfl, trivial⟩ ?_
   intro a3 w3 τ3 st3 f3
   obtain ⟨e0, e2, -⟩ := f3.ks [(0, _), (2, _)] ⟨e0, e2, trivial⟩
   have e3 : get a3 3 = (.int .i64 (4)) := f3.v 2 rfl
   replace r0 : boxR 25 [(.int .i64 (0)), (.string ((⟨#[]⟩ : ByteArray))), (.bool (false)), (.slice none 0 0), (.int .i64 (0)), (.int .i64 (0)), (.bool (false)), (.slice none 0 0)] (τ3 0) b1x2 w3 := f3.rb 1 e2 rfl
   clear f3
   show Code.wp _ _ _ a3 w3
   refine wp_ret ?_
   repeat (first | with_reducible refine then_ret ?_ | with_reducible refine block_ret ?_)
   refine ret2c (fn := Try.f33) rfl st3.defers e2 e3 r0 Try.isAgg25 Try.sizeOf25 rfl ?_
   have he_ : readF s = ((leafT 0 (⟨#[]⟩ : ByteArray) false 0 0 false), 4) := by unfold readF; (repeat (first | rw [if_neg (by first | assumption | (simp only [Bool.not_eq_true]; assumption) | (simp only [Bool.not_eq_false]; assumption) | (exact fun h_ => h_ (by assumption)) | omega)] | rw [if_pos (by first | assumption | omega)])); (try rfl)
   rw [he_]
   exact ⟨(leafT 0 (⟨#[]⟩ : ByteArray) false 0 0 false), rfl, st3.ext0, (leafTr _ _ _ _ _ _ _ _), rfl⟩
 try simp only [decide_eq_false_iff_not, Int.not_lt] at hc1
 refine wp_skip ?_
 show Code.wp _ _ _ a2 w2
 refine wp_seq ?_
 refine region_of_ops ?_
 refine ops_cut 2 (by kernel_rfl) ?_
 refine ops_St (bf := [0, 1]) (sp := [det _ 11 _, zdet _ 12 (fun b : Sv => b.v) (fun _ => True) (fun b : Sv => zSl StrE Al b.v (splitF s))]) [ib r0] st2 (by kernel_rfl) ⟨r0, trivial⟩
  ⟨Ob.d fun c => r_move rfl (c.p e0),
  Ob.zc (f := fun b : Sv => b.v) (Ψ := fun _ => True) (Φ := fun b : Sv => zSl StrE Al b.v (splitF s)) fun {_ a_ _ _} c => ⟨_, _, (e_call1 rfl rfl Try.call38 (c.n 0 rfl)), (split_c s _ (by omega)).mono (fun e w' ⟨v_, he_, hx_, hn_⟩ => by obtain ⟨s_, rfl⟩ := hn_.1.sl.sl.sv; exact ⟨s_, he_, hx_, trivial, (c.sn st2 hx_ hn_ : (zSl StrE (Gn none' w) _ _).P _ _).1, fun h_ => ⟨((c.sn st2 hx_ hn_ : (zSl StrE (Gn none' w) _ _).P _ _).2 h_).1, trivial⟩⟩)⟩, trivial⟩ ?_
 intro a4 w4 τ4 st4 f4
 obtain ⟨e2, e3, -⟩ := f4.ks [(2, _), (3, _)] ⟨e2, e3, trivial⟩
 obtain ⟨kv1_, e12, -, hz4⟩ := f4.zd 1 rfl
 have e12 : get a4 12 = kv1_.v := e12
 replace r0 := f4.ib 0 rfl
 have r1 : Fz (zSl StrE Al kv1_.v (splitF s)) τ4 w4 := hz4
 clear f4
 refine only_mk ?_
 refine ops_St (bf := [0, 1, 3]) (sp := [det _ 13 _, box _ _ 2 14 [kv1_.v, (.int .i64 (0))], box _ _ 2 4 [kv1_.v, (.int .i64 (0))]]) [ib r0, iz r1] st4 (by kernel_rfl) ⟨r0, r1, trivial⟩
  ⟨Ob.d fun c => r_build (cells := #[kv1_.v, (.int .i64 (0))]) rfl Try.underlying58 Try.zeroValue58 (pl := #[(0, 1), (1, 1)]) (fun w_ => by simp [Try.sizeOf3, Try.sizeOf32]) (fill1 (c.p e12) rfl),
  Ob.box (v := (.agg #[kv1_.v, (.int .i64 (0))])) rfl rfl rfl rfl rfl (fun _ _ _ _ c => (c.n 0 rfl)),
  Ob.moveT (t0 := 14) rfl rfl rfl rfl rfl (.inr rfl) (fun _ _ _ _ c => ⟨c.rb 1 rfl, rfl⟩), trivial⟩ ?_
 intro a5 w5 τ5 st5 f5
 obtain ⟨b5x4, e4⟩ : ∃ b, get a5 4 = b := ⟨_, rfl⟩
 obtain ⟨e2, e3, -⟩ := f5.ks [(2, _), (3, _)] ⟨e2, e3, trivial⟩
 replace r0 := f5.ib 0 rfl
 replace r1 := f5.iz 1 rfl
 have r2 : boxR 58 [kv1_.v, (.int .i64 (0))] (τ5 2) b5x4 w5 := f5.rb 2 e4 rfl
 clear f5
 show Code.wp _ _ _ a5 w5
 refine wp_seq ?_
 refine region_of_ops ?_
 refine ops_cut 2 (by kernel_rfl) ?_
 refine ops_St (bf := [0, 1]) (sp := [det _ 16 _, zbox 58 _ 2 17 (b5x4) (fun b : Tr => [kv1_.v, .int .i64 (((patF (splitF s) ((splitF s).length + 1) 0 0 [] []).2.2 : Nat) : Int)]) (fun b : Tr => .tuple #[b.v, .int .i64 (patF (splitF s) ((splitF s).length + 1) 0 0 [] []).2.1]) (fun b : Tr => er b = (patF (splitF s) ((splitF s).length + 1) 0 0 [] []).1) (fun b : Tr => zTr (Gn none' w) b)]) [ib r0, iz r1, ib r2] st5 (by kernel_rfl) ⟨r0, r1, r2, trivial⟩
  ⟨Ob.d fun c => r_move rfl (c.p e4),
  Ob.zb (cells := fun b : Tr => [kv1_.v, .int .i64 (((patF (splitF s) ((splitF s).length + 1) 0 0 [] []).2.2 : Nat) : Int)]) (f := fun b : Tr => .tuple #[b.v, .int .i64 (patF (splitF s) ((splitF s).length + 1) 0 0 [] []).2.1]) (Ψ := fun b : Tr => er b = (patF (splitF s) ((splitF s).length + 1) 0 0 [] []).1) (Φ := fun b : Tr => zTr (Gn none' w) b) fun {_ a_ _ _} c => ⟨_, _, (e_call2 rfl rfl Try.call39 (c.n 0 rfl) rfl), (pat_all b5x4 kv1_ (splitF s) (split_ok (by omega)) (split_proper s) ((splitF s).length + 1) 0 0 _ (rdr (i := 0) (c.ib 2 rfl) (c.iz 1 rfl) (fun g_ h_ hz_ => hz_.2 _ h_)) (Nat.zero_le _) (by omega) (by omega)).mono (fun e w' ⟨b_, he_, hx_, hb_, ht_, hq_⟩ => ⟨b_, he_, (c.ib 2 rfl).ext hx_, hb_.back (c.ib 2 rfl), hq_, c.tns st5 hx_.size ht_⟩)⟩, trivial⟩ ?_
 intro a6 w6 τ6 st6 f6
 obtain ⟨e2, e3, e4, -⟩ := f6.ks [(2, _), (3, _), (4, _)] ⟨e2, e3, e4, trivial⟩
 obtain ⟨t2_, e17, hro6, hqt2_, hz6⟩ := f6.zb 1 rfl
 have e17 : get a6 17 = (.tuple #[(.agg #[(.int .i64 (t2_.k)), (.string (t2_.ch)), (.bool (t2_.ng)), t2_.rv.v, (.int .i64 (t2_.mn)), (.int .i64 (t2_.mx)), (.bool (t2_.lz)), t2_.kv.v]), (.int .i64 ((patF (splitF s) ((splitF s).length + 1) 0 0 [] []).2.1))]) := e17
 replace r0 := f6.ib 0 rfl
 replace r1 := f6.iz 1 rfl
 replace r2 : boxR 58 [kv1_.v, (.int .i64 ((((patF (splitF s) ((splitF s).length + 1) 0 0 [] []).2.2 : Nat) : Int)))] (τ6 2) b5x4 w6 := hro6
 have r3 : Fz (zTr (Gn none' w) t2_) τ6 w6 := hz6
 clear f6
 refine only_mk ?_
 refine ops_St (bf := [0, 1, 3, 7, 15, 31]) (sp := [det _ 15 _, det _ 18 _, det _ 19 _, box _ _ 4 5 [(.int .i64 (0)), (.string ((⟨#[]⟩ : ByteArray))), (.bool (false)), (.slice none 0 0), (.int .i64 (0)), (.int .i64 (0)), (.bool (false)), (.slice none 0 0)], box _ _ 4 5 [(.int .i64 (t2_.k)), (.string (t2_.ch)), (.bool (t2_.ng)), t2_.rv.v, (.int .i64 (t2_.mn)), (.int .i64 (t2_.mx)), (.bool (t2_.lz)), t2_.kv.v], det _ 6 _]) [ib r0, iz r1, ib r2, iz r3] st6 (by kernel_rfl) ⟨r0, r1, r2, r3, trivial⟩
  ⟨Ob.d fun c => r_move rfl (c.p e17),
  Ob.d fun c => r_extract rfl (c.n 0 rfl) rfl,
  Ob.d fun c => r_extract rfl (c.n 0 rfl) rfl,
  Ob.alloc rfl rfl rfl rfl Try.zeroValue25 rfl,
  Ob.storeBox (off := 0) (v := (.agg #[(.int .i64 (t2_.k)), (.string (t2_.ch)), (.bool (t2_.ng)), t2_.rv.v, (.int .i64 (t2_.mn)), (.int .i64 (t2_.mx)), (.bool (t2_.lz)), t2_.kv.v])) rfl rfl rfl rfl Try.sizeOf25 (Nat.le_of_ble_eq_true rfl) (by simp [Value.cells, Value.oneCell', Sv.v]) rfl (fun _ _ _ _ c => ⟨c.rb 3 rfl, (c.rb 3 rfl).ptr, (c.n 1 rfl)⟩),
  Ob.d fun c => r_assign rfl (c.n 2 rfl), trivial⟩ ?_
 intro a7 w7 τ7 st7 f7
 obtain ⟨b7x5, e5⟩ : ∃ b, get a7 5 = b := ⟨_, rfl⟩
 obtain ⟨e2, e3, e4, -⟩ := f7.ks [(2, _), (3, _), (4, _)] ⟨e2, e3, e4, trivial⟩
 have e6 : get a7 6 = (.int .i64 ((patF (splitF s) ((splitF s).length + 1) 0 0 [] []).2.1)) := f7.v 5 rfl
 replace r0 := f7.ib 0 rfl
 replace r1 := f7.iz 1 rfl
 replace r2 := f7.ib 2 rfl
 replace r3 := f7.iz 3 rfl
 have r4 : boxR 25 [(.int .i64 (t2_.k)), (.string (t2_.ch)), (.bool (t2_.ng)), t2_.rv.v, (.int .i64 (t2_.mn)), (.int .i64 (t2_.mx)), (.bool (t2_.lz)), t2_.kv.v] (τ7 4) b7x5 w7 := f7.rb 4 e5 rfl
 clear f7
 show Code.wp _ _ _ a7 w7
 refine wp_seq ?_
 refine wp_seq ?_
 refine region_St (bf := [0, 1, 3, 7, 15, 31, 63, 7, 135, 391, 903, 1927, 4095, 8191]) (sp := [det _ 20 _, det _ 21 _, det _ 22 _, gdet _ 23 _ _, gdet _ 24 _ _, gdet _ 25 _ _, gdet _ 26 _ _, gdet _ 27 _ _, gdet _ 28 _ _, gdet _ 29 _ _, gdet _ 30 _ _, gdet _ 31 _ _, gdet _ 32 _ _, det _ 33 _]) [ib r0, iz r1, ib r2, iz r3, ib r4] mixed st7 (by kernel_rfl) ⟨r0, r1, r2, r3, r4, trivial⟩
  ⟨Ob.d fun c => r_move rfl (c.p e6),
  Ob.d fun c => r_eql rfl (c.n 0 rfl) rfl,
  Ob.d fun c => r_move rfl (c.n 1 rfl),
  Ob.g 2 true rfl fun c hpc => r_move rfl (c.p e4),
  Ob.g 2 true rfl fun c hpc => r_nilCheck rfl (c.m 3 rfl hpc) r2.ptr,
  Ob.g 2 true rfl fun c hpc => r_fieldAddr rfl Try.underlying58 rfl rfl Try.sizeOf3 ((c.m 4 rfl hpc).trans r2.ptr),
  Ob.g 2 true rfl fun c hpc => r_load1 rfl Try.isAgg3 (c.m 5 rfl hpc) ((c.ib 2 rfl).cell (j := 1) rfl),
  Ob.g 2 true rfl fun c hpc => r_move rfl (c.p e4),
  Ob.g 2 true rfl fun c hpc => r_nilCheck rfl (c.m 7 rfl hpc) r2.ptr,
  Ob.g 2 true rfl fun c hpc => r_fieldAddr rfl Try.underlying58 rfl rfl Try.sizeOf32 ((c.m 8 rfl hpc).trans r2.ptr),
  Ob.g 2 true rfl fun c hpc => r_load1 rfl Try.isAgg32 (c.m 9 rfl hpc) ((c.ib 2 rfl).cell (j := 0) rfl),
  Ob.g 2 true rfl fun c hpc => r_len rfl Try.underlying32 (c.m 10 rfl hpc) (r1).1.sl,
  Ob.g 2 true rfl fun c hpc => r_lss rfl (c.m 6 rfl hpc) (c.m 11 rfl hpc),
  Ob.d fun c => r_and rfl (c.n 2 rfl) (fun h => c.m 12 rfl h), trivial⟩ ?_
 intro a8 w8 τ8 st8 f8
 obtain ⟨e2, e3, e5, e6, -⟩ := f8.ks [(2, _), (3, _), (5, _), (6, _)] ⟨e2, e3, e5, e6, trivial⟩
 have e33 : get a8 33 = (.bool ((decide ((patF (splitF s) ((splitF s).length + 1) 0 0 [] []).2.1 = 0)) && (decide ((((patF (splitF s) ((splitF s).length + 1) 0 0 [] []).2.2 : Nat) : Int) < ((splitF s).length : Int))))) := f8.v 13 rfl
 replace r0 := f8.ib 0 rfl
 replace r1 := f8.iz 1 rfl
 replace r3 := f8.iz 3 rfl
 replace r4 := f8.ib 4 rfl
 clear f8
 show Code.wp _ _ _ a8 w8
 refine wp_cond_split (t := (decide ((patF (splitF s) ((splitF s).length + 1) 0 0 [] []).2.1 = 0)) && (decide ((((patF (splitF s) ((splitF s).length + 1) 0 0 [] []).2.2 : Nat) : Int) < ((splitF s).length : Int)))) e33 (fun hc2 => ?_) (fun hc2 => ?_)
 · try simp only [Bool.and_eq_true, decide_eq_true_eq] at hc2
   refine region_St (bf := [0]) (sp := [det _ 6 _]) [ib r0, Ini.any _, Ini.any _, iz r3, ib r4] mixed st8 (by kernel_rfl) ⟨r0, trivial, trivial, r3, r4, trivial⟩
    ⟨Ob.d fun c => r_assign rfl rfl, trivial⟩ ?_
   intro a9 w9 τ9 st9 f9
   obtain ⟨e2, e3, e5, -⟩ := f9.ks [(2, _), (3, _), (5, _)] ⟨e2, e3, e5, trivial⟩
   have e6 : get a9 6 = (.int .i64 (10)) := f9.v 0 rfl
   replace r0 := f9.ib 0 rfl
   replace r3 := f9.iz 3 rfl
   replace r4 := f9.ib 4 rfl
   clear f9
   show Code.wp _ _ _ a9 w9
   refine wp_seq ?_
   refine wp_seq ?_
   refine region_St (bf := [0, 1]) (sp := [det _ 34 _, det _ 35 _]) [ib r0, Ini.any _, Ini.any _, iz r3, ib r4] mixed st9 (by kernel_rfl) ⟨r0, trivial, trivial, r3, r4, trivial⟩
    ⟨Ob.d fun c => r_move rfl (c.p e6),
    Ob.d fun c => r_neq rfl (c.n 0 rfl) rfl, trivial⟩ ?_
   intro a10 w10 τ10 st10 f10
   obtain ⟨e2, e3, e5, e6, -⟩ := f10.ks [(2, _), (3, _), (5, _), (6, _)] ⟨e2, e3, e5, e6, trivial⟩
   have e35 : get a10 35 = (.bool (!decide (10 = 0))) := f10.v 1 rfl
   replace r0 := f10.ib 0 rfl
   replace r3 := f10.iz 3 rfl
   replace r4 := f10.ib 4 rfl
   clear f10
   show Code.wp _ _ _ a10 w10
   refine wp_cond_split (t := !decide (10 = 0)) e35 (fun hc3 => ?_) (fun hc3 => ?_)
   · try simp only [Bool.not_eq_true', Bool.not_eq_false', decide_eq_true_eq, decide_eq_false_iff_not] at hc3
     refine wp_seq ?_
     refine region_St (bf := [0, 0, 1, 7]) (sp := [det _ 36 _, det _ 37 _, box _ _ 0 2 [(.int .i64 (0)), (.string ((⟨#[]⟩ : ByteArray))), (.bool (false)), (.slice none 0 0), (.int .i64 (0)), (.int .i64 (0)), (.bool (false)), (.slice none 0 0)], det _ 3 _]) [ib r0, Ini.any _, Ini.any _, iz r3, ib r4] mixed st10 (by kernel_rfl) ⟨r0, trivial, trivial, r3, r4, trivial⟩
      ⟨Ob.d fun c => r_build (cells := #[(.int .i64 (0)), (.string ((⟨#[]⟩ : ByteArray))), (.bool (false)), (.slice none 0 0), (.int .i64 (0)), (.int .i64 (0)), (.bool (false)), (.slice none 0 0)]) rfl Try.underlying25 Try.zeroValue25 (pl := #[(0, 1), (1, 1), (2, 1), (3, 1), (4, 1), (5, 1), (6, 1), (7, 1)]) (fun w_ => by simp [Try.sizeOf22, Try.sizeOf23, Try.sizeOf3, Try.sizeOf4, Try.sizeOf9]) (by simp only [List.map_toArray, List.map_nil]; rfl),
      Ob.d fun c => r_move rfl (c.p e6),
      Ob.storeBox (off := 0) (v := (.agg #[(.int .i64 (0)), (.string ((⟨#[]⟩ : ByteArray))), (.bool (false)), (.slice none 0 0), (.int .i64 (0)), (.int .i64 (0)), (.bool (false)), (.slice none 0 0)])) rfl rfl rfl rfl Try.sizeOf25 (Nat.le_of_ble_eq_true rfl) (by simp [Value.cells, Value.oneCell', Sv.v]) rfl (fun _ _ _ _ c => ⟨c.bp 0 rfl e2, c.ad ((c.p e2).trans r0.ptr) e2 rfl, (c.n 0 rfl)⟩),
      Ob.d fun c => r_assign rfl (c.n 1 rfl), trivial⟩ ?_
     intro a11 w11 τ11 st11 f11
     obtain ⟨e2, e5, -⟩ := f11.ks [(2, _), (5, _)] ⟨e2, e5, trivial⟩
     have e3 : get a11 3 = (.int .i64 (10)) := f11.v 3 rfl
     replace r0 : boxR 25 [(.int .i64 (0)), (.string ((⟨#[]⟩ : ByteArray))), (.bool (false)), (.slice none 0 0), (.int .i64 (0)), (.int .i64 (0)), (.bool (false)), (.slice none 0 0)] (τ11 0) b1x2 w11 := f11.rb 2 e2 rfl
     replace r3 := f11.iz 3 rfl
     replace r4 := f11.ib 4 rfl
     clear f11
     show Code.wp _ _ _ a11 w11
     refine wp_ret ?_
     repeat (first | with_reducible refine then_ret ?_ | with_reducible refine block_ret ?_)
     refine ret2c (fn := Try.f33) rfl st11.defers e2 e3 r0 Try.isAgg25 Try.sizeOf25 rfl ?_
     have he_ : readF s = ((leafT 0 (⟨#[]⟩ : ByteArray) false 0 0 false), 10) := by unfold readF; (repeat (first | rw [if_neg (by first | assumption | (simp only [Bool.not_eq_true]; assumption) | (simp only [Bool.not_eq_false]; assumption) | (exact fun h_ => h_ (by assumption)) | omega)] | rw [if_pos (by first | assumption | omega)])); (try rfl)
     rw [he_]
     exact ⟨(leafT 0 (⟨#[]⟩ : ByteArray) false 0 0 false), rfl, st11.ext0, (leafTr _ _ _ _ _ _ _ _), rfl⟩
   try simp only [Bool.not_eq_true', Bool.not_eq_false', decide_eq_true_eq, decide_eq_false_iff_not] at hc3
   refine wp_skip ?_
   show Code.wp _ _ _ a10 w10
   refine wp_seq ?_
   refine region_St (bf := [0, 1, 3]) (sp := [det _ 38 _, box _ _ 0 2 [(.int .i64 (t2_.k)), (.string (t2_.ch)), (.bool (t2_.ng)), t2_.rv.v, (.int .i64 (t2_.mn)), (.int .i64 (t2_.mx)), (.bool (t2_.lz)), t2_.kv.v], det _ 3 _]) [ib r0, Ini.any _, Ini.any _, iz r3, ib r4] mixed st10 (by kernel_rfl) ⟨r0, trivial, trivial, r3, r4, trivial⟩
    ⟨Ob.d fun c => r_loadN (vs := [(.int .i64 (t2_.k)), (.string (t2_.ch)), (.bool (t2_.ng)), t2_.rv.v, (.int .i64 (t2_.mn)), (.int .i64 (t2_.mx)), (.bool (t2_.lz)), t2_.kv.v]) rfl Try.isAgg25 Try.sizeOf25 ((c.p e5).trans r4.ptr) rfl (fun _ _ hj => (c.ib 4 rfl).cell hj),
    Ob.storeBox (off := 0) (v := (.agg #[(.int .i64 (t2_.k)), (.string (t2_.ch)), (.bool (t2_.ng)), t2_.rv.v, (.int .i64 (t2_.mn)), (.int .i64 (t2_.mx)), (.bool (t2_.lz)), t2_.kv.v])) rfl rfl rfl rfl Try.sizeOf25 (Nat.le_of_ble_eq_true rfl) (by simp [Value.cells, Value.oneCell', Sv.v]) rfl (fun _ _ _ _ c => ⟨c.bp 0 rfl e2, c.ad ((c.p e2).trans r0.ptr) e2 rfl, (c.n 0 rfl)⟩),
    Ob.d fun c => r_assign rfl rfl, trivial⟩ ?_
   intro a12 w12 τ12 st12 f12
   obtain ⟨e2, -⟩ := f12.ks [(2, _)] ⟨e2, trivial⟩
   have e3 : get a12 3 = (.int .i64 (0)) := f12.v 2 rfl
   replace r0 : boxR 25 [(.int .i64 (t2_.k)), (.string (t2_.ch)), (.bool (t2_.ng)), t2_.rv.v, (.int .i64 (t2_.mn)), (.int .i64 (t2_.mx)), (.bool (t2_.lz)), t2_.kv.v] (τ12 0) b1x2 w12 := f12.rb 1 e2 rfl
   replace r3 := f12.iz 3 rfl
   clear f12
   show Code.wp _ _ _ a12 w12
   refine wp_ret ?_
   repeat (first | with_reducible refine then_ret ?_ | with_reducible refine block_ret ?_)
   refine ret2c (fn := Try.f33) rfl st12.defers e2 e3 r0 Try.isAgg25 Try.sizeOf25 rfl ?_
   have he_ : readF s = ((er t2_), 0) := by rw [hqt2_]; unfold readF; (repeat (first | rw [if_neg (by first | assumption | (simp only [Bool.not_eq_true]; assumption) | (simp only [Bool.not_eq_false]; assumption) | (exact fun h_ => h_ (by assumption)) | omega)] | rw [if_pos (by first | assumption | omega)])); (try rfl)
   rw [he_]
   exact ⟨t2_, rfl, st12.ext0, r3.out, rfl⟩
 try simp only [Bool.and_eq_false_iff, decide_eq_false_iff_not, Int.not_lt] at hc2
 refine wp_skip ?_
 show Code.wp _ _ _ a8 w8
 refine wp_seq ?_
 refine wp_seq ?_
 refine region_St (bf := [0, 1]) (sp := [det _ 34 _, det _ 35 _]) [ib r0, Ini.any _, Ini.any _, iz r3, ib r4] mixed st8 (by kernel_rfl) ⟨r0, trivial, trivial, r3, r4, trivial⟩
  ⟨Ob.d fun c => r_move rfl (c.p e6),
  Ob.d fun c => r_neq rfl (c.n 0 rfl) rfl, trivial⟩ ?_
 intro a13 w13 τ13 st13 f13
 obtain ⟨e2, e3, e5, e6, -⟩ := f13.ks [(2, _), (3, _), (5, _), (6, _)] ⟨e2, e3, e5, e6, trivial⟩
 have e35 : get a13 35 = (.bool (!decide ((patF (splitF s) ((splitF s).length + 1) 0 0 [] []).2.1 = 0))) := f13.v 1 rfl
 replace r0 := f13.ib 0 rfl
 replace r3 := f13.iz 3 rfl
 replace r4 := f13.ib 4 rfl
 clear f13
 show Code.wp _ _ _ a13 w13
 refine wp_cond_split (t := !decide ((patF (splitF s) ((splitF s).length + 1) 0 0 [] []).2.1 = 0)) e35 (fun hc4 => ?_) (fun hc4 => ?_)
 · try simp only [Bool.not_eq_true', Bool.not_eq_false', decide_eq_true_eq, decide_eq_false_iff_not] at hc4
   refine wp_seq ?_
   refine region_St (bf := [0, 0, 1, 7]) (sp := [det _ 36 _, det _ 37 _, box _ _ 0 2 [(.int .i64 (0)), (.string ((⟨#[]⟩ : ByteArray))), (.bool (false)), (.slice none 0 0), (.int .i64 (0)), (.int .i64 (0)), (.bool (false)), (.slice none 0 0)], det _ 3 _]) [ib r0, Ini.any _, Ini.any _, iz r3, ib r4] mixed st13 (by kernel_rfl) ⟨r0, trivial, trivial, r3, r4, trivial⟩
    ⟨Ob.d fun c => r_build (cells := #[(.int .i64 (0)), (.string ((⟨#[]⟩ : ByteArray))), (.bool (false)), (.slice none 0 0), (.int .i64 (0)), (.int .i64 (0)), (.bool (false)), (.slice none 0 0)]) rfl Try.underlying25 Try.zeroValue25 (pl := #[(0, 1), (1, 1), (2, 1), (3, 1), (4, 1), (5, 1), (6, 1), (7, 1)]) (fun w_ => by simp [Try.sizeOf22, Try.sizeOf23, Try.sizeOf3, Try.sizeOf4, Try.sizeOf9]) (by simp only [List.map_toArray, List.map_nil]; rfl),
    Ob.d fun c => r_move rfl (c.p e6),
    Ob.storeBox (off := 0) (v := (.agg #[(.int .i64 (0)), (.string ((⟨#[]⟩ : ByteArray))), (.bool (false)), (.slice none 0 0), (.int .i64 (0)), (.int .i64 (0)), (.bool (false)), (.slice none 0 0)])) rfl rfl rfl rfl Try.sizeOf25 (Nat.le_of_ble_eq_true rfl) (by simp [Value.cells, Value.oneCell', Sv.v]) rfl (fun _ _ _ _ c => ⟨c.bp 0 rfl e2, c.ad ((c.p e2).trans r0.ptr) e2 rfl, (c.n 0 rfl)⟩),
    Ob.d fun c => r_assign rfl (c.n 1 rfl), trivial⟩ ?_
   intro a14 w14 τ14 st14 f14
   obtain ⟨e2, e5, -⟩ := f14.ks [(2, _), (5, _)] ⟨e2, e5, trivial⟩
   have e3 : get a14 3 = (.int .i64 ((patF (splitF s) ((splitF s).length + 1) 0 0 [] []).2.1)) := f14.v 3 rfl
   replace r0 : boxR 25 [(.int .i64 (0)), (.string ((⟨#[]⟩ : ByteArray))), (.bool (false)), (.slice none 0 0), (.int .i64 (0)), (.int .i64 (0)), (.bool (false)), (.slice none 0 0)] (τ14 0) b1x2 w14 := f14.rb 2 e2 rfl
   replace r3 := f14.iz 3 rfl
   replace r4 := f14.ib 4 rfl
   clear f14
   show Code.wp _ _ _ a14 w14
   refine wp_ret ?_
   repeat (first | with_reducible refine then_ret ?_ | with_reducible refine block_ret ?_)
   refine ret2c (fn := Try.f33) rfl st14.defers e2 e3 r0 Try.isAgg25 Try.sizeOf25 rfl ?_
   have he_ : readF s = ((leafT 0 (⟨#[]⟩ : ByteArray) false 0 0 false), (patF (splitF s) ((splitF s).length + 1) 0 0 [] []).2.1) := by unfold readF; (repeat (first | rw [if_neg (by first | assumption | (simp only [Bool.not_eq_true]; assumption) | (simp only [Bool.not_eq_false]; assumption) | (exact fun h_ => h_ (by assumption)) | omega)] | rw [if_pos (by first | assumption | omega)])); (try rfl)
   rw [he_]
   exact ⟨(leafT 0 (⟨#[]⟩ : ByteArray) false 0 0 false), rfl, st14.ext0, (leafTr _ _ _ _ _ _ _ _), rfl⟩
 try simp only [Bool.not_eq_true', Bool.not_eq_false', decide_eq_true_eq, decide_eq_false_iff_not] at hc4
 refine wp_skip ?_
 show Code.wp _ _ _ a13 w13
 refine wp_seq ?_
 refine region_St (bf := [0, 1, 3]) (sp := [det _ 38 _, box _ _ 0 2 [(.int .i64 (t2_.k)), (.string (t2_.ch)), (.bool (t2_.ng)), t2_.rv.v, (.int .i64 (t2_.mn)), (.int .i64 (t2_.mx)), (.bool (t2_.lz)), t2_.kv.v], det _ 3 _]) [ib r0, Ini.any _, Ini.any _, iz r3, ib r4] mixed st13 (by kernel_rfl) ⟨r0, trivial, trivial, r3, r4, trivial⟩
  ⟨Ob.d fun c => r_loadN (vs := [(.int .i64 (t2_.k)), (.string (t2_.ch)), (.bool (t2_.ng)), t2_.rv.v, (.int .i64 (t2_.mn)), (.int .i64 (t2_.mx)), (.bool (t2_.lz)), t2_.kv.v]) rfl Try.isAgg25 Try.sizeOf25 ((c.p e5).trans r4.ptr) rfl (fun _ _ hj => (c.ib 4 rfl).cell hj),
  Ob.storeBox (off := 0) (v := (.agg #[(.int .i64 (t2_.k)), (.string (t2_.ch)), (.bool (t2_.ng)), t2_.rv.v, (.int .i64 (t2_.mn)), (.int .i64 (t2_.mx)), (.bool (t2_.lz)), t2_.kv.v])) rfl rfl rfl rfl Try.sizeOf25 (Nat.le_of_ble_eq_true rfl) (by simp [Value.cells, Value.oneCell', Sv.v]) rfl (fun _ _ _ _ c => ⟨c.bp 0 rfl e2, c.ad ((c.p e2).trans r0.ptr) e2 rfl, (c.n 0 rfl)⟩),
  Ob.d fun c => r_assign rfl rfl, trivial⟩ ?_
 intro a15 w15 τ15 st15 f15
 obtain ⟨e2, -⟩ := f15.ks [(2, _)] ⟨e2, trivial⟩
 have e3 : get a15 3 = (.int .i64 (0)) := f15.v 2 rfl
 replace r0 : boxR 25 [(.int .i64 (t2_.k)), (.string (t2_.ch)), (.bool (t2_.ng)), t2_.rv.v, (.int .i64 (t2_.mn)), (.int .i64 (t2_.mx)), (.bool (t2_.lz)), t2_.kv.v] (τ15 0) b1x2 w15 := f15.rb 1 e2 rfl
 replace r3 := f15.iz 3 rfl
 clear f15
 show Code.wp _ _ _ a15 w15
 refine wp_ret ?_
 repeat (first | with_reducible refine then_ret ?_ | with_reducible refine block_ret ?_)
 refine ret2c (fn := Try.f33) rfl st15.defers e2 e3 r0 Try.isAgg25 Try.sizeOf25 rfl ?_
 have he_ : readF s = ((er t2_), 0) := by rw [hqt2_]; unfold readF; (repeat (first | rw [if_neg (by first | assumption | (simp only [Bool.not_eq_true]; assumption) | (simp only [Bool.not_eq_false]; assumption) | (exact fun h_ => h_ (by assumption)) | omega)] | rw [if_pos (by first | assumption | omega)])); (try rfl)
 rw [he_]
 exact ⟨t2_, rfl, st15.ext0, r3.out, rfl⟩
end B
end Go.Proofs.Ytocmchlhbniloaa
namespace Go.Proofs.Ytocmchlhbniloaa
namespace B
open Srt
theorem split_len (s : ByteArray) : (splitF s).length ≤ s.size := spS_len s s.size
theorem read_law {s : ByteArray} (hc : s.size ≤ 256 → CsOk (splitF s)) (hp : CsP (splitF s)) (h : (readF s).2 = 0) : PatOk (readF s).1 (s.size : Int) 0 := by
  unfold readF at h ⊢
  split at h
  · cases h
  · rename_i h1
    rw [if_neg h1]
    split at h
    · rename_i h2; exact absurd h h2
    · rename_i h2
      rw [if_neg h2]
      split at h
      · cases h
      · rename_i h3
        rw [if_neg h3]
        have e2 := Classical.byContradiction h2
        have a1 := pat_le _ _ _ _ _ _ e2
        have a2 := pat_law (hc (by omega)) hp _ 0 0 0 [] [] (by decide) (SoFar.start 0 0) e2
        have a3 := split_len s
        have b1 := a2.wt; have b2 := a2.parts; have b3 := a2.deep
        have e0 : ((0 : Nat) : Int) = 0 := rfl
        exact ⟨by simp only [] ; omega, by simp only []; omega, b3, a2.all⟩
def treesF (ss : List ByteArray) : List Tr := (ss.filter fun s => decide ((readF s).2 = 0)).map fun s => (readF s).1
theorem trees_hit {ss : List ByteArray} {k : Nat} (h : k < ss.length) (hc : (readF (nth ss (k : Int))).2 = 0) : treesF (ss.take (k + 1)) = treesF (ss.take k) ++ [(readF (nth ss (k : Int))).1] := by
  unfold treesF
  rw [take_snoc h, List.filter_append, List.map_append]
  simp [hc]
theorem trees_miss {ss : List ByteArray} {k : Nat} (h : k < ss.length) (hc : ¬ (readF (nth ss (k : Int))).2 = 0) : treesF (ss.take (k + 1)) = treesF (ss.take k) := by
  unfold treesF
  rw [take_snoc h, List.filter_append, List.map_append]
  simp [hc]
theorem long_sum {ss : List ByteArray} : ∀ {n : Int}, 0 ≤ n → longL n ss = false → sumL (ss.map fun s => (s.size : Int) + 1) ≤ n := by
  induction ss with
  | nil => intro n hn _; simpa [sumL] using hn
  | cons s ss ih =>
    intro n hn h
    rw [longL, Bool.or_eq_false_iff, decide_eq_false_iff_not] at h
    have := ih (n := n - (s.size : Int) - 1) (by omega) h.2
    rw [List.map_cons, sumL_cons]; omega
structure XsOk (l : List Tr) : Prop where
  all : ∀ x ∈ l, allF x = true ∧ deepF x ≤ 16
  parts : sumL (l.map partsF) ≤ 210
  wt : sumL (l.map wtF) ≤ 300000
theorem trees_ok {ss : List ByteArray} (hc : ∀ s ∈ ss, s.size ≤ 256 → CsOk (splitF s)) (hp : ∀ s ∈ ss, CsP (splitF s)) (h : sumL (ss.map fun s => (s.size : Int) + 1) ≤ 100) : XsOk (treesF ss) := by
  have key : ∀ l : List ByteArray, (∀ s ∈ l, s.size ≤ 256 → CsOk (splitF s)) → (∀ s ∈ l, CsP (splitF s)) → (∀ x ∈ treesF l, allF x = true ∧ deepF x ≤ 16) ∧ sumL ((treesF l).map partsF) ≤ 2 * sumL (l.map fun s => (s.size : Int) + 1) ∧ sumL ((treesF l).map wtF) ≤ 2200 * sumL (l.map fun s => (s.size : Int) + 1) := by
    intro l
    induction l with
    | nil => intro _ _; exact ⟨fun x hx => by simp [treesF] at hx, by simp [treesF, sumL], by simp [treesF, sumL]⟩
    | cons s l ih =>
      intro h1 h2
      obtain ⟨i1, i2, i3⟩ := ih (fun s hs => h1 s (by simp [hs])) (fun s hs => h2 s (by simp [hs]))
      rw [List.map_cons, sumL_cons]
      by_cases hz : (readF s).2 = 0
      · have e : treesF (s :: l) = (readF s).1 :: treesF l := by unfold treesF; simp [hz]
        have hl := read_law (h1 s (by simp)) (h2 s (by simp)) hz
        have a1 := hl.wt; have a2 := hl.parts; have a3 := hl.deep
        rw [e, List.map_cons, List.map_cons, sumL_cons, sumL_cons]
        refine ⟨fun x hx => ?_, by omega, by omega⟩
        rcases List.mem_cons.1 hx with hx | hx
        · subst hx; exact ⟨hl.all, by omega⟩
        · exact i1 x hx
      · have e : treesF (s :: l) = treesF l := by unfold treesF; simp [hz]
        rw [e]
        exact ⟨i1, by omega, by omega⟩
  obtain ⟨a, b, c⟩ := key ss hc hp
  exact ⟨a, by omega, by omega⟩
theorem fields_of {x : Tr} (h : allF x = true) : fieldsF x = true ∧ ∀ y ∈ x.kids, allF y = true := by
  rw [allF_eq, Bool.and_eq_true, List.all_eq_true] at h
  exact ⟨h.2, h.1⟩
theorem kids0 {x : Tr} (h : allF x = true) (hk : x.k = 0) : x.kids.length ≠ 1 ∧ ∀ y ∈ x.kids, allF y = true ∧ y.k ≠ 0 ∧ y.k ≠ 1 := by
  obtain ⟨h1, h2⟩ := fields_of h
  unfold fieldsF at h1
  rw [if_neg (by omega), if_neg (by omega), if_neg (by omega), if_pos hk, someK_two] at h1
  simp only [Bool.and_eq_true, Bool.not_eq_true', decide_eq_false_iff_not, List.any_eq_false, Bool.or_eq_true, decide_eq_true_eq, not_or] at h1
  exact ⟨by omega, fun y hy => ⟨h2 y hy, h1.2 y hy⟩⟩
theorem kids1 {x : Tr} (h : allF x = true) (hk : x.k = 1) : 2 ≤ x.kids.length ∧ ∀ y ∈ x.kids, allF y = true ∧ y.k ≠ 1 := by
  obtain ⟨h1, h2⟩ := fields_of h
  unfold fieldsF at h1
  rw [if_neg (by omega), if_neg (by omega), if_neg (by omega), if_neg (by omega), if_pos hk, someK_one] at h1
  simp only [Bool.and_eq_true, Bool.not_eq_true', decide_eq_true_eq, List.any_eq_false] at h1
  exact ⟨by omega, fun y hy => ⟨h2 y hy, h1.2 y hy⟩⟩
theorem deep_kid {x y : Tr} (h : y ∈ x.kids) : deepF y ≤ deepF x := by
  rw [deepF_eq x]
  have := maxL_mem (List.mem_map.2 ⟨y, h, rfl⟩ : deepF y ∈ x.kids.map deepF)
  split <;> omega
theorem flat_mem {k : Int} {l : List Tr} {y : Tr} (h : y ∈ flatF k l) : ∃ x ∈ l, (x.k = k ∧ y ∈ x.kids) ∨ (x.k ≠ k ∧ y = x) := by
  unfold flatF at h
  obtain ⟨x, hx, hy⟩ := List.mem_flatMap.1 h
  refine ⟨x, hx, ?_⟩
  split at hy
  · rename_i hk; exact .inl ⟨hk, hy⟩
  · rename_i hk; simp at hy; exact .inr ⟨hk, hy⟩
theorem flat1_ok {l : List Tr} (h : ∀ x ∈ l, allF x = true ∧ deepF x ≤ 16) : ∀ y ∈ flatF 1 l, allF y = true ∧ y.k ≠ 1 ∧ deepF y ≤ 16 := fun y hy => by
  obtain ⟨x, hx, h1 | h1⟩ := flat_mem hy
  · have := (kids1 (h x hx).1 h1.1).2 y h1.2
    exact ⟨this.1, this.2, Int.le_trans (deep_kid h1.2) (h x hx).2⟩
  · obtain ⟨h1, rfl⟩ := h1
    exact ⟨(h y hx).1, h1, (h y hx).2⟩
theorem flat0_ok {l : List Tr} (h : ∀ x ∈ l, allF x = true ∧ deepF x ≤ 16) : ∀ y ∈ flatF 0 l, allF y = true ∧ y.k ≠ 0 ∧ deepF y ≤ 16 ∧ ((∀ x ∈ l, x.k ≠ 1) → y.k ≠ 1) := fun y hy => by
  obtain ⟨x, hx, h1 | h1⟩ := flat_mem hy
  · have := (kids0 (h x hx).1 h1.1).2 y h1.2
    exact ⟨this.1, this.2.1, Int.le_trans (deep_kid h1.2) (h x hx).2, fun _ => this.2.2⟩
  · obtain ⟨h1, rfl⟩ := h1
    exact ⟨(h y hx).1, h1, (h y hx).2, fun h2 => h2 y hx⟩
theorem parts_kids {x : Tr} : sumL (x.kids.map partsF) = partsF x - 1 := by rw [partsF_eq x]; omega
def cntK (k : Int) (l : List Tr) : Int := sumL (l.map fun x => if x.k = k then 1 else 0)
theorem flat_parts (k : Int) (l : List Tr) : sumL ((flatF k l).map partsF) = sumL (l.map partsF) - cntK k l := by
  unfold cntK
  induction l using snoc_ind with
  | h0 => rfl
  | h1 l x ih =>
    rw [flatF_snoc, List.map_append, List.map_append, List.map_append, sumL_app, List.map_cons, List.map_nil, List.map_cons, List.map_nil, sumL_snoc, sumL_snoc, ih]
    split
    · rw [parts_kids]; omega
    · rw [List.map_cons, List.map_nil, sumL_cons, sumL_nil]; omega
theorem cnt_pos (k : Int) (l : List Tr) : 0 ≤ cntK k l := sumL_pos fun x hx => by
  obtain ⟨y, _, rfl⟩ := List.mem_map.1 hx
  split <;> omega
theorem alt_law {l : List Tr} (h : XsOk l) : mayF (altF l) = true ∧ ((altF l).k = 1 → partsF (altF l) = 1 + sumL (l.map partsF) - cntK 1 l) := by
  have h1 := flat1_ok h.all
  have h2 := flat_parts 1 l
  have h3 := cnt_pos 1 l
  have h4 := h.parts
  have hp : ∀ m : List Tr, (∀ y ∈ m, 0 ≤ partsF y) := fun m y _ => by have := partsF_pos y; omega
  have may : ∀ {x : Tr}, allF x = true → partsF x ≤ 512 → deepF x ≤ 16 → mayF x = true := fun a b c => by unfold mayF; simp [a, b, c]
  unfold altF
  revert h1 h2
  match flatF 1 l with
  | [] => intro h1 h2; exact ⟨by decide +kernel, fun hk => absurd hk (by decide)⟩
  | [x] =>
    intro h1 h2
    rw [List.map_cons, List.map_nil, sumL_cons, sumL_nil] at h2
    show mayF x = true ∧ (x.k = 1 → partsF x = 1 + sumL (l.map partsF) - cntK 1 l)
    exact ⟨may (h1 x (by simp)).1 (by omega) (h1 x (by simp)).2.2, fun hk => absurd hk (h1 x (by simp)).2.1⟩
  | x :: y :: m =>
    intro h1 h2
    have hpm := parts_mk 1 (x :: y :: m)
    refine ⟨may (alt_all (fun z hz => ⟨(h1 z hz).1, (h1 z hz).2.1⟩) (by simp)) (by show partsF (mkT 1 _) ≤ 512; omega) ?_, fun _ => by show partsF (mkT 1 _) = _; omega⟩
    show deepF (mkT 1 _) ≤ 16
    rw [deep_mk _ _ (.inr rfl)]; exact maxL_all (by decide) fun z hz => (h1 z hz).2.2
theorem seq_law {l : List Tr} (h : XsOk l) (hn : ∀ x ∈ l, x.k ≠ 1) : mayF (seqF l) = true ∧ (partsF (seqF l) = 1 + sumL (l.map partsF) - cntK 0 l ∨ partsF (seqF l) = sumL (l.map partsF) - cntK 0 l) := by
  have h1 := flat0_ok h.all
  have h2 := flat_parts 0 l
  have h3 := cnt_pos 0 l
  have h4 := h.parts
  have may : ∀ {x : Tr}, allF x = true → partsF x ≤ 512 → deepF x ≤ 16 → mayF x = true := fun a b c => by unfold mayF; simp [a, b, c]
  unfold seqF
  have many : ∀ m : List Tr, m.length ≠ 1 → (∀ y ∈ m, allF y = true ∧ y.k ≠ 0 ∧ deepF y ≤ 16 ∧ ((∀ x ∈ l, x.k ≠ 1) → y.k ≠ 1)) → sumL (m.map partsF) = sumL (l.map partsF) - cntK 0 l → mayF (mkT 0 m) = true ∧ (partsF (mkT 0 m) = 1 + sumL (l.map partsF) - cntK 0 l ∨ partsF (mkT 0 m) = sumL (l.map partsF) - cntK 0 l) := fun m hl g1 g2 => by
    have hpm := parts_mk 0 m
    refine ⟨may (seq_all (fun z hz => ⟨(g1 z hz).1, (g1 z hz).2.1, (g1 z hz).2.2.2 hn⟩) hl) (by omega) ?_, .inl (by omega)⟩
    rw [deep_mk _ _ (.inl rfl)]; exact maxL_all (by decide) fun z hz => (g1 z hz).2.2.1
  revert h1 h2
  match flatF 0 l with
  | [] => intro h1 h2; exact many [] (by simp) h1 h2
  | [x] =>
    intro h1 h2
    rw [List.map_cons, List.map_nil, sumL_cons, sumL_nil] at h2
    show mayF x = true ∧ (partsF x = 1 + sumL (l.map partsF) - cntK 0 l ∨ partsF x = sumL (l.map partsF) - cntK 0 l)
    exact ⟨may (h1 x (by simp)).1 (by omega) (h1 x (by simp)).2.2.1, .inr (by omega)⟩
  | x :: y :: m => intro h1 h2; exact many _ (by simp) h1 h2
end B
end Go.Proofs.Ytocmchlhbniloaa
namespace Go.Proofs.Ytocmchlhbniloaa
namespace B
open Go.RowKit
open Srt
set_option maxRecDepth 100000 in
theorem trees_c (v : Value) (ss : List ByteArray) (w : World) (hS : SlT StrE w v ss) (hb : ss.length ≤ 1000) : Calls Try.prog 18 #[v] w (fun e w' => ∃ v' ts, e = .returned v' ∧ Ext none' w w' ∧ NewT TrE 25 w w' v' ts ∧ (∀ t ∈ ts, TrT (fun g => (Gn none' w) g ∧ v'.ownBlock ≠ some g) w' t) ∧ ts.map er = treesF ss) := by
 refine enter (n := 28) Try.func18 rfl rfl (Nat.le_of_ble_eq_true rfl) ?_
 intro a0 τ0 ha st0
 have e0 : get a0 0 = v := ha 0 _ rfl
 clear ha
 have hle := hS.le
 refine wp_seq ?_
 refine region_St (bf := [0]) (sp := [det _ 2 _]) [] mixed st0 (by kernel_rfl) trivial
  ⟨Ob.d fun c => r_assign rfl rfl, trivial⟩ ?_
 intro a1 w1 τ1 st1 f1
 obtain ⟨e0, -⟩ := f1.ks [(0, _)] ⟨e0, trivial⟩
 have e2 : get a1 2 = (.slice none 0 0) := f1.v 0 rfl
 clear f1
 show Code.wp _ _ _ a1 w1
 refine wp_seq ?_
 refine region_St (bf := [0]) (sp := [det _ 3 _]) [] mixed st1 (by kernel_rfl) trivial
  ⟨Ob.d fun c => r_assign rfl rfl, trivial⟩ ?_
 intro a2 w2 τ2 st2 f2
 obtain ⟨e0, e2, -⟩ := f2.ks [(0, _), (2, _)] ⟨e0, e2, trivial⟩
 have e3 : get a2 3 = (.slice none 0 0) := f2.v 0 rfl
 clear f2
 show Code.wp _ _ _ a2 w2
 refine wp_seq ?_
 refine wp_seq ?_
 refine region_St (bf := [0]) (sp := [det _ 4 _]) [] mixed st2 (by kernel_rfl) trivial
  ⟨Ob.d fun c => r_assign rfl rfl, trivial⟩ ?_
 intro a3 w3 τ3 st3 f3
 obtain ⟨e0, e2, e3, -⟩ := f3.ks [(0, _), (2, _), (3, _)] ⟨e0, e2, e3, trivial⟩
 have e4 : get a3 4 = (.int .i64 (0)) := f3.v 0 rfl
 clear f3
 show Code.wp _ _ _ a3 w3
 refine wp_block ?_
 refine wp_loop (fun a_ w_ => ∃ (k : Nat) (u : Value) (ts : List Tr) (τ : Nat → Foot), (k ≤ ss.length) ∧
      (ts.length ≤ k) ∧
      (ts.map er = treesF (ss.take k)) ∧
      St (Nw w) w 28 a_ w_ τ ∧
      get a_ 3 = u ∧
      get a_ 4 = (.int .i64 ((k : Int))) ∧
      get a_ 0 = v ∧
      get a_ 2 = (.slice none 0 0) ∧
      ownR TrE 25 (ts) (τ 5) u w_ ∧
      Fz (zTl (Gn none' w) ts) τ w_) (fun a_ _ => ss.length - (intOf (get a_ 4)).toNat) ?_ ?_
 · refine ⟨0, (.slice none 0 0), [], τ3, ?_, ?_, ?_, st3, e3, (e4.trans (int_eq (by omega))), e0, e2, ?_, ?_⟩
   · omega
   · simp
   · rfl
   · exact ownR.nil _ _ _ _
   · exact Fz.tn _ _ _
 intro a4 w4 hI
 obtain ⟨k, u, ts, τ4, q0, q1, q2, st4, e3, e4, e0, e2, r5, r6⟩ := hI
 have m4 := e4
 refine wp_seq ?_
 refine wp_seq ?_
 refine region_St (bf := [0, 0, 2, 7]) (sp := [det _ 7 _, det _ 8 _, det _ 9 _, det _ 10 _]) [Ini.any _, Ini.any _, Ini.any _, Ini.any _, Ini.any _, io r5, iz r6] mixed st4 (by kernel_rfl) ⟨trivial, trivial, trivial, trivial, trivial, r5, r6, trivial⟩
  ⟨Ob.d fun c => r_move rfl (c.p e4),
  Ob.d fun c => r_move rfl (c.p e0),
  Ob.d fun c => r_len rfl Try.underlying32 (c.n 1 rfl) hS.sl,
  Ob.d fun c => r_lss rfl (c.n 0 rfl) (c.n 2 rfl), trivial⟩ ?_
 intro a5 w5 τ5 st5 f5
 obtain ⟨e0, e2, e3, e4, -⟩ := f5.ks [(0, _), (2, _), (3, _), (4, _)] ⟨e0, e2, e3, e4, trivial⟩
 have e10 : get a5 10 = (.bool (decide ((k : Int) < (ss.length : Int)))) := f5.v 3 rfl
 replace r5 := f5.io 5 rfl
 replace r6 := f5.iz 6 rfl
 clear f5
 show Code.wp _ _ _ a5 w5
 refine wp_cond_split (t := decide ((k : Int) < (ss.length : Int))) e10 (fun hc1 => ?_) (fun hc1 => ?_)
 · try simp only [decide_eq_true_eq] at hc1
   refine wp_skip ?_
   show Code.wp _ _ _ a5 w5
   refine wp_seq ?_
   refine wp_block ?_
   refine wp_seq ?_
   refine region_of_ops ?_
   refine ops_cut 5 (by kernel_rfl) ?_
   refine ops_St (bf := [0, 0, 3, 7, 15]) (sp := [det _ 14 _, det _ 15 _, det _ 16 _, det _ 17 _, zdet _ 18 (fun b : Tr => .tuple #[b.v, .int .i64 (readF (nth ss ((k : Int)))).2]) (fun b : Tr => er b = (readF (nth ss ((k : Int)))).1) (fun b : Tr => zTr (Gn none' w) b)]) [Ini.any _, Ini.any _, Ini.any _, Ini.any _, Ini.any _, io r5, iz r6] st5 (by kernel_rfl) ⟨trivial, trivial, trivial, trivial, trivial, r5, r6, trivial⟩
    ⟨Ob.d fun c => r_move rfl (c.p e0),
    Ob.d fun c => r_move rfl (c.p e4),
    Ob.d fun c => r_indexAddr rfl Try.underlying32 Try.sizeOf9 (c.n 0 rfl) hS.sl (c.n 1 rfl) (by omega) (by omega),
    Ob.d fun c => r_load1 rfl Try.isAgg9 (c.n 2 rfl) (((hS.at (st5.ext.trans c.J.ext))).elem (j := 0) (nth_some (i := (k : Int)) (by omega) (by omega)) rfl),
    Ob.zc (f := fun b : Tr => .tuple #[b.v, .int .i64 (readF (nth ss ((k : Int)))).2]) (Ψ := fun b : Tr => er b = (readF (nth ss ((k : Int)))).1) (Φ := fun b : Tr => zTr (Gn none' w) b) fun {_ a_ _ _} c => ⟨_, _, (e_call1 rfl rfl Try.call33 (c.n 3 rfl)), (read_c (nth ss ((k : Int))) _).mono (fun e w' ⟨t_, he_, hx_, ht_, hq_⟩ => ⟨t_, he_, hx_, hq_, c.tn st5 hx_ ht_⟩)⟩, trivial⟩ ?_
   intro a6 w6 τ6 st6 f6
   obtain ⟨e0, e2, e3, e4, e10, -⟩ := f6.ks [(0, _), (2, _), (3, _), (4, _), (10, _)] ⟨e0, e2, e3, e4, e10, trivial⟩
   obtain ⟨t1_, e18, hqt1_, hz6⟩ := f6.zd 4 rfl
   have e18 : get a6 18 = (.tuple #[(.agg #[(.int .i64 (t1_.k)), (.string (t1_.ch)), (.bool (t1_.ng)), t1_.rv.v, (.int .i64 (t1_.mn)), (.int .i64 (t1_.mx)), (.bool (t1_.lz)), t1_.kv.v]), (.int .i64 ((readF (nth ss ((k : Int)))).2))]) := e18
   replace r5 := f6.io 5 rfl
   replace r6 := f6.iz 6 rfl
   have r0 : Fz (zTr (Gn none' w) t1_) τ6 w6 := hz6
   clear f6
   refine only_mk ?_
   refine ops_St (bf := [0, 1, 3, 7, 15, 31]) (sp := [det _ 13 _, det _ 19 _, det _ 20 _, box _ _ 1 5 [(.int .i64 (0)), (.string ((⟨#[]⟩ : ByteArray))), (.bool (false)), (.slice none 0 0), (.int .i64 (0)), (.int .i64 (0)), (.bool (false)), (.slice none 0 0)], box _ _ 1 5 [(.int .i64 (t1_.k)), (.string (t1_.ch)), (.bool (t1_.ng)), t1_.rv.v, (.int .i64 (t1_.mn)), (.int .i64 (t1_.mx)), (.bool (t1_.lz)), t1_.kv.v], det _ 6 _]) [iz r0, Ini.any _, Ini.any _, Ini.any _, Ini.any _, io r5, iz r6] st6 (by kernel_rfl) ⟨r0, trivial, trivial, trivial, trivial, r5, r6, trivial⟩
    ⟨Ob.d fun c => r_move rfl (c.p e18),
    Ob.d fun c => r_extract rfl (c.n 0 rfl) rfl,
    Ob.d fun c => r_extract rfl (c.n 0 rfl) rfl,
    Ob.alloc rfl rfl rfl rfl Try.zeroValue25 rfl,
    Ob.storeBox (off := 0) (v := (.agg #[(.int .i64 (t1_.k)), (.string (t1_.ch)), (.bool (t1_.ng)), t1_.rv.v, (.int .i64 (t1_.mn)), (.int .i64 (t1_.mx)), (.bool (t1_.lz)), t1_.kv.v])) rfl rfl rfl rfl Try.sizeOf25 (Nat.le_of_ble_eq_true rfl) (by simp [Value.cells, Value.oneCell', Sv.v]) rfl (fun _ _ _ _ c => ⟨c.rb 3 rfl, (c.rb 3 rfl).ptr, (c.n 1 rfl)⟩),
    Ob.d fun c => r_assign rfl (c.n 2 rfl), trivial⟩ ?_
   intro a7 w7 τ7 st7 f7
   obtain ⟨b7x5, e5⟩ : ∃ b, get a7 5 = b := ⟨_, rfl⟩
   obtain ⟨e0, e2, e3, e4, e10, -⟩ := f7.ks [(0, _), (2, _), (3, _), (4, _), (10, _)] ⟨e0, e2, e3, e4, e10, trivial⟩
   have e6 : get a7 6 = (.int .i64 ((readF (nth ss ((k : Int)))).2)) := f7.v 5 rfl
   replace r0 := f7.iz 0 rfl
   have r1 : boxR 25 [(.int .i64 (t1_.k)), (.string (t1_.ch)), (.bool (t1_.ng)), t1_.rv.v, (.int .i64 (t1_.mn)), (.int .i64 (t1_.mx)), (.bool (t1_.lz)), t1_.kv.v] (τ7 1) b7x5 w7 := f7.rb 4 e5 rfl
   replace r5 := f7.io 5 rfl
   replace r6 := f7.iz 6 rfl
   clear f7
   show Code.wp _ _ _ a7 w7
   refine wp_seq ?_
   refine region_St (bf := [0, 1]) (sp := [det _ 21 _, det _ 22 _]) [iz r0, ib r1, Ini.any _, Ini.any _, Ini.any _, io r5, iz r6] mixed st7 (by kernel_rfl) ⟨r0, r1, trivial, trivial, trivial, r5, r6, trivial⟩
    ⟨Ob.d fun c => r_move rfl (c.p e6),
    Ob.d fun c => r_eql rfl (c.n 0 rfl) rfl, trivial⟩ ?_
   intro a8 w8 τ8 st8 f8
   obtain ⟨e0, e2, e3, e4, e5, e6, e10, -⟩ := f8.ks [(0, _), (2, _), (3, _), (4, _), (5, _), (6, _), (10, _)] ⟨e0, e2, e3, e4, e5, e6, e10, trivial⟩
   have e22 : get a8 22 = (.bool (decide ((readF (nth ss ((k : Int)))).2 = 0))) := f8.v 1 rfl
   replace r0 := f8.iz 0 rfl
   replace r1 := f8.ib 1 rfl
   replace r5 := f8.io 5 rfl
   replace r6 := f8.iz 6 rfl
   clear f8
   show Code.wp _ _ _ a8 w8
   refine wp_cond_split (t := decide ((readF (nth ss ((k : Int)))).2 = 0)) e22 (fun hc2 => ?_) (fun hc2 => ?_)
   · try simp only [decide_eq_true_eq] at hc2
     refine region_St (bf := [0, 0, 2, 7, 15]) (sp := [det _ 23 _, det _ 24 _, own TrE 25 _ 2 25 ([t1_]), own _ _ _ 5 26 _, own _ _ _ 5 3 _]) [iz r0, ib r1, Ini.any _, Ini.any _, Ini.any _, io r5, iz r6] mixed st8 (by kernel_rfl) ⟨r0, r1, trivial, trivial, trivial, r5, r6, trivial⟩
      ⟨Ob.d fun c => r_move rfl (c.p e3),
      Ob.d fun c => r_loadN (vs := [(.int .i64 (t1_.k)), (.string (t1_.ch)), (.bool (t1_.ng)), t1_.rv.v, (.int .i64 (t1_.mn)), (.int .i64 (t1_.mx)), (.bool (t1_.lz)), t1_.kv.v]) rfl Try.isAgg25 Try.sizeOf25 ((c.p e5).trans r1.ptr) rfl (fun _ _ hj => (c.ib 1 rfl).cell hj),
      Ob.buildSlice (cells := #[(.int .i64 (t1_.k)), (.string (t1_.ch)), (.bool (t1_.ng)), t1_.rv.v, (.int .i64 (t1_.mn)), (.int .i64 (t1_.mx)), (.bool (t1_.lz)), t1_.kv.v]) rfl rfl rfl rfl Try.underlying23 Try.sizeOf25 Try.zeroValue25 rfl (by decide) (by decide) (fun _ _ _ _ c => fill1 (c.n 1 rfl) (by kernel_rfl)) rfl,
      Ob.append (t0 := 3) rfl rfl rfl rfl Try.underlying23 (i := Try.t25) rfl rfl rfl rfl (by simp only [maxLen]; (try simp); omega) (by show _ * 104 ≤ _; (try simp); omega) (fun _ _ _ _ c => ⟨c.ip 5 rfl e3, c.sm (c.n 0 rfl) e3, ⟨_, rfl, (c.ro 2 rfl).1.sl⟩⟩),
      Ob.moveT (t0 := 26) rfl rfl rfl rfl rfl (.inr rfl) (fun _ _ _ _ c => ⟨c.ro 3 rfl, rfl⟩), trivial⟩ ?_
     intro a9 w9 τ9 st9 f9
     obtain ⟨b9x25, e25⟩ : ∃ b, get a9 25 = b := ⟨_, rfl⟩
     obtain ⟨b9x3, e3⟩ : ∃ b, get a9 3 = b := ⟨_, rfl⟩
     obtain ⟨e0, e2, e4, e5, e6, e10, e22, -⟩ := f9.ks [(0, _), (2, _), (4, _), (5, _), (6, _), (10, _), (22, _)] ⟨e0, e2, e4, e5, e6, e10, e22, trivial⟩
     replace r0 := f9.iz 0 rfl
     replace r1 := f9.ib 1 rfl
     have r2 : ownR TrE 25 ([t1_]) (τ9 2) b9x25 w9 := f9.ro 2 e25 rfl
     replace r5 : ownR TrE 25 (ts ++ [t1_]) (τ9 5) b9x3 w9 := f9.ro 4 e3 rfl
     replace r6 := f9.iz 6 rfl
     clear f9
     show _
     show Code.wp _ _ _ a9 w9
     refine region_St (bf := [0, 1, 3]) (sp := [det _ 11 _, det _ 12 _, det _ 4 _]) [iz r0, ib r1, io r2, Ini.any _, Ini.any _, io r5, iz r6] mixed st9 (by kernel_rfl) ⟨r0, r1, r2, trivial, trivial, r5, r6, trivial⟩
      ⟨Ob.d fun c => r_move rfl (c.p e4),
      Ob.d fun c => r_add rfl (c.n 0 rfl) rfl (by omega),
      Ob.d fun c => r_assign rfl (c.n 1 rfl), trivial⟩ ?_
     intro a10 w10 τ10 st10 f10
     obtain ⟨e0, e2, e3, e5, e6, e10, e22, -⟩ := f10.ks [(0, _), (2, _), (3, _), (5, _), (6, _), (10, _), (22, _)] ⟨e0, e2, e3, e5, e6, e10, e22, trivial⟩
     have e4 : get a10 4 = (.int .i64 ((k : Int) + 1)) := f10.v 2 rfl
     replace r0 := f10.iz 0 rfl
     replace r1 := f10.ib 1 rfl
     replace r2 := f10.io 2 rfl
     replace r5 := f10.io 5 rfl
     replace r6 := f10.iz 6 rfl
     clear f10
     refine ⟨⟨k + 1, b9x3, ts ++ [t1_], τ10, ?_, ?_, ?_, st10, e3, (e4.trans (int_eq (by omega))), e0, e2, ?_, ?_⟩, ?_⟩
     · omega
     · (try simp); omega
     · first | (rw [ers_snoc, q2, hqt1_, ← trees_hit (by omega) (by assumption)]) | (rw [trees_miss (by omega) (by assumption)]; exact q2)
     · exact r5.cast (by rfl)
     · exact Fz.snoc r6 r0
     · simp only [m4, e4, intOf]; omega
   try simp only [decide_eq_false_iff_not] at hc2
   refine wp_skip ?_
   show _
   show Code.wp _ _ _ a8 w8
   refine region_St (bf := [0, 1, 3]) (sp := [det _ 11 _, det _ 12 _, det _ 4 _]) [iz r0, ib r1, Ini.any _, Ini.any _, Ini.any _, io r5, iz r6] mixed st8 (by kernel_rfl) ⟨r0, r1, trivial, trivial, trivial, r5, r6, trivial⟩
    ⟨Ob.d fun c => r_move rfl (c.p e4),
    Ob.d fun c => r_add rfl (c.n 0 rfl) rfl (by omega),
    Ob.d fun c => r_assign rfl (c.n 1 rfl), trivial⟩ ?_
   intro a11 w11 τ11 st11 f11
   obtain ⟨e0, e2, e3, e5, e6, e10, e22, -⟩ := f11.ks [(0, _), (2, _), (3, _), (5, _), (6, _), (10, _), (22, _)] ⟨e0, e2, e3, e5, e6, e10, e22, trivial⟩
   have e4 : get a11 4 = (.int .i64 ((k : Int) + 1)) := f11.v 2 rfl
   replace r0 := f11.iz 0 rfl
   replace r1 := f11.ib 1 rfl
   replace r5 := f11.io 5 rfl
   replace r6 := f11.iz 6 rfl
   clear f11
   refine ⟨⟨k + 1, u, ts, τ11, ?_, ?_, ?_, st11, e3, (e4.trans (int_eq (by omega))), e0, e2, ?_, ?_⟩, ?_⟩
   · omega
   · (try simp); omega
   · first | (rw [ers_snoc, q2, hqt1_, ← trees_hit (by omega) (by assumption)]) | (rw [trees_miss (by omega) (by assumption)]; exact q2)
   · exact r5.cast (by rfl)
   · exact r6
   · simp only [m4, e4, intOf]; omega
 try simp only [decide_eq_false_iff_not, Int.not_lt] at hc1
 refine wp_exit ?_
 repeat (with_reducible refine then_exit ?_)
 refine exit_here ?_
 show Code.wp _ _ _ a5 w5
 refine wp_seq ?_
 refine region_St (bf := [0, 1]) (sp := [det _ 27 _, det _ 2 _]) [Ini.any _, Ini.any _, Ini.any _, Ini.any _, Ini.any _, io r5, iz r6] mixed st5 (by kernel_rfl) ⟨trivial, trivial, trivial, trivial, trivial, r5, r6, trivial⟩
  ⟨Ob.d fun c => r_move rfl (c.p e3),
  Ob.d fun c => r_assign rfl (c.n 0 rfl), trivial⟩ ?_
 intro a12 w12 τ12 st12 f12
 have e2 : get a12 2 = u := f12.v 1 rfl
 replace r5 := f12.io 5 rfl
 replace r6 := f12.iz 6 rfl
 clear f12
 show Code.wp _ _ _ a12 w12
 refine wp_ret ?_
 repeat (first | with_reducible refine then_ret ?_ | with_reducible refine block_ret ?_)
 refine ret1 (fn := Try.f18) rfl st12.defers e2 ?_
 rw [List.take_of_length_le (by omega)] at q2
 exact ⟨_, ts, rfl, st12.ext0, ⟨r5.1, fun g_ h_ => (st12.bnd _ g_ (r5.2 g_ h_)).1⟩, r6.outo (i := 5) r5.2, q2⟩
end B
end Go.Proofs.Ytocmchlhbniloaa
namespace Go.Proofs.Ytocmchlhbniloaa
namespace B
open Go.RowKit
open Srt
theorem cnt_snoc (k : Int) (l : List Tr) (x : Tr) : cntK k (l ++ [x]) = cntK k l + if x.k = k then 1 else 0 := by
  unfold cntK; rw [List.map_append, List.map_cons, List.map_nil, sumL_snoc]
theorem cnt_map (k : Int) (l : List Tr) : cntK k (l.map er) = cntK k l := by
  unfold cntK; rw [List.map_map]; congr 1; exact List.map_congr_left fun t _ => by show (if (er t).k = k then (1 : Int) else 0) = _; rw [er_k]
def plainL (l : List Tr) : List Tr := l.filter fun x => !decide (x.k = 1)
theorem cnt_le (k : Int) (l : List Tr) : cntK k l ≤ (l.length : Int) := by
  unfold cntK
  induction l using snoc_ind with
  | h0 => exact Int.le_refl _
  | h1 l x ih =>
    rw [List.map_append, List.map_cons, List.map_nil, sumL_snoc, List.length_append]
    simp only [List.length_cons, List.length_nil]
    split <;> omega
theorem len_parts (l : List Tr) : (l.length : Int) ≤ sumL (l.map partsF) := by
  induction l using snoc_ind with
  | h0 => exact Int.le_refl _
  | h1 l x ih =>
    rw [List.map_append, List.map_cons, List.map_nil, sumL_snoc, List.length_append]
    have := partsF_pos x
    simp; omega
theorem Fz_cast {G : Foot} {τ : Nat → Foot} {w : World} {l l' : List Tr} (h : Fz (zTl G l) τ w) (e : l' = l) : Fz (zTl G l') τ w := e ▸ h
def nF (l : List Tr) : Int := 1 + sumL (l.map partsF) - cntK 1 l
def mF0 (l : List Tr) : Int := 1 + sumL (l.map partsF) - cntK 0 l
theorem nF_rg (l : List Tr) : 1 ≤ nF l ∧ nF l ≤ 1 + sumL (l.map partsF) := by
  have := cnt_le 1 l; have := len_parts l; have := cnt_pos 1 l
  unfold nF; omega
theorem mF_rg (l : List Tr) : 1 ≤ mF0 l ∧ mF0 l ≤ 1 + sumL (l.map partsF) := by
  have := cnt_le 0 l; have := len_parts l; have := cnt_pos 0 l
  unfold mF0; omega
theorem nF_alt {ts : List Tr} {k : Nat} (h : k < ts.length) (hk : (nth ts (k : Int)).k = 1) : nF (ts.take (k + 1)) = nF (ts.take k) + partsF (nth ts (k : Int)) - 1 := by
  unfold nF; rw [take_snoc h, cnt_snoc, if_pos hk, List.map_append, List.map_cons, List.map_nil, sumL_snoc]; omega
theorem nF_no {ts : List Tr} {k : Nat} (h : k < ts.length) (hk : ¬ (nth ts (k : Int)).k = 1) : nF (ts.take (k + 1)) = nF (ts.take k) + partsF (nth ts (k : Int)) := by
  unfold nF; rw [take_snoc h, cnt_snoc, if_neg hk, List.map_append, List.map_cons, List.map_nil, sumL_snoc]; omega
theorem plain_alt {ts : List Tr} {k : Nat} (h : k < ts.length) (hk : (nth ts (k : Int)).k = 1) : plainL (ts.take (k + 1)) = plainL (ts.take k) := by
  unfold plainL; rw [take_snoc h, List.filter_append]; simp [hk]
theorem plain_no {ts : List Tr} {k : Nat} (h : k < ts.length) (hk : ¬ (nth ts (k : Int)).k = 1) : plainL (ts.take (k + 1)) = plainL (ts.take k) ++ [nth ts (k : Int)] := by
  unfold plainL; rw [take_snoc h, List.filter_append]; simp [hk]
theorem mF_seq {l : List Tr} {x : Tr} (hk : x.k = 0) : mF0 (l ++ [x]) = mF0 l + partsF x - 1 := by
  unfold mF0; rw [cnt_snoc, if_pos hk, List.map_append, List.map_cons, List.map_nil, sumL_snoc]; omega
theorem mF_no {l : List Tr} {x : Tr} (hk : ¬ x.k = 0) : mF0 (l ++ [x]) = mF0 l + partsF x := by
  unfold mF0; rw [cnt_snoc, if_neg hk, List.map_append, List.map_cons, List.map_nil, sumL_snoc]; omega
theorem sub_sum {f : Tr → Int} (hf : ∀ t, 0 ≤ f t) (p : Tr → Bool) (l : List Tr) : sumL ((l.filter p).map f) ≤ sumL (l.map f) := by
  induction l using snoc_ind with
  | h0 => exact Int.le_refl _
  | h1 l x ih =>
    rw [List.filter_append, List.map_append, List.map_append, sumL_app, List.map_cons, List.map_nil, sumL_snoc]
    have := hf x
    cases hp : p x <;> simp [hp, sumL] at ih ⊢ <;> omega
theorem XsOk.plain {l : List Tr} (h : XsOk (l.map er)) : XsOk ((plainL l).map er) ∧ ∀ x ∈ (plainL l).map er, x.k ≠ 1 := by
  have h1 := h.parts; have h2 := h.wt
  rw [parts_map] at h1; rw [wt_map] at h2
  have h3 := sub_sum (f := partsF) (fun t => by have := partsF_pos t; omega) (fun x => !decide (x.k = 1)) l
  have h4 := sub_sum (f := wtF) (fun t => by have := wtF_pos t; omega) (fun x => !decide (x.k = 1)) l
  refine ⟨⟨fun x hx => ?_, by rw [parts_map]; unfold plainL; omega, by rw [wt_map]; unfold plainL; omega⟩, fun x hx => ?_⟩
  · obtain ⟨y, hy, rfl⟩ := List.mem_map.1 hx
    exact h.all _ (List.mem_map.2 ⟨y, (List.mem_filter.1 hy).1, rfl⟩)
  · obtain ⟨y, hy, rfl⟩ := List.mem_map.1 hx
    rw [er_k]
    simpa using (List.mem_filter.1 hy).2
set_option maxRecDepth 100000 in
set_option maxHeartbeats 4000000 in
theorem seqMay_c (v : Value) (ss : List ByteArray) (w : World) (hS : SlT StrE w v ss) : Calls Try.prog 5 #[v] w (fun e w' => e = .returned (.bool (true)) ∧ Ext none' w w') := by
 refine enter (n := 98) Try.func5 rfl rfl (Nat.le_of_ble_eq_true rfl) ?_
 intro a0 τ0 ha st0
 have e0 : get a0 0 = v := ha 0 _ rfl
 clear ha
 have hle := hS.le
 refine wp_seq ?_
 refine region_St (bf := [0]) (sp := [det _ 2 _]) [] mixed st0 (by kernel_rfl) trivial
  ⟨Ob.d fun c => r_assign rfl rfl, trivial⟩ ?_
 intro a1 w1 τ1 st1 f1
 obtain ⟨e0, -⟩ := f1.ks [(0, _)] ⟨e0, trivial⟩
 have e2 : get a1 2 = (.bool (false)) := f1.v 0 rfl
 clear f1
 show Code.wp _ _ _ a1 w1
 refine wp_seq ?_
 refine wp_seq ?_
 refine region_St (bf := [0, 1, 3, 7, 15, 31, 63]) (sp := [det _ 10 _, det _ 11 _, det _ 12 _, det _ 13 _, gdet _ 14 _ _, gdet _ 15 _ _, det _ 16 _]) [] mixed st1 (by kernel_rfl) trivial
  ⟨Ob.d fun c => r_move rfl (c.p e0),
  Ob.d fun c => r_len rfl Try.underlying32 (c.n 0 rfl) hS.sl,
  Ob.d fun c => r_gtr rfl (c.n 1 rfl) rfl,
  Ob.d fun c => r_move rfl (c.n 2 rfl),
  Ob.g 3 false rfl fun c hpc => r_move rfl (c.p e0),
  Ob.gc 3 false rfl fun c hpc => ⟨_, _, (e_call2 rfl rfl Try.call17 rfl (c.m 4 rfl hpc)), long_c 100 v ss _ (hS.at (st1.ext.trans c.J.ext)) (by have hq0 := bn hpc; omega)⟩,
  Ob.d fun c => r_or rfl (c.n 3 rfl) (fun h => c.m 5 rfl h), trivial⟩ ?_
 intro a2 w2 τ2 st2 f2
 obtain ⟨e0, e2, -⟩ := f2.ks [(0, _), (2, _)] ⟨e0, e2, trivial⟩
 have e16 : get a2 16 = (.bool ((decide (8 < (ss.length : Int))) || (longL 100 ss))) := f2.v 6 rfl
 clear f2
 show Code.wp _ _ _ a2 w2
 refine wp_cond_split (t := (decide (8 < (ss.length : Int))) || (longL 100 ss)) e16 (fun hc1 => ?_) (fun hc1 => ?_)
 · have hd1 := hc1; try simp only [Bool.or_eq_true, decide_eq_true_eq] at hd1
   refine wp_seq ?_
   refine region_St (bf := [0, 1]) (sp := [det _ 17 _, det _ 2 _]) [] mixed st2 (by kernel_rfl) trivial
    ⟨Ob.c fun c => ⟨_, _, (e_call0 rfl rfl Try.call10), awake_c _⟩,
    Ob.d fun c => r_assign rfl (c.n 0 rfl), trivial⟩ ?_
   intro a3 w3 τ3 st3 f3
   obtain ⟨e0, -⟩ := f3.ks [(0, _)] ⟨e0, trivial⟩
   have e2 : get a3 2 = (.bool (true)) := f3.v 1 rfl
   clear f3
   show Code.wp _ _ _ a3 w3
   refine wp_ret ?_
   repeat (first | with_reducible refine then_ret ?_ | with_reducible refine block_ret ?_)
   refine ret1 (fn := Try.f5) rfl st3.defers e2 ?_
   exact ⟨rfl, st3.ext0⟩
 have hd1 := hc1; try simp only [Bool.or_eq_false_iff, decide_eq_false_iff_not, Int.not_lt] at hd1
 refine wp_skip ?_
 show Code.wp _ _ _ a2 w2
 refine wp_seq ?_
 obtain ⟨hl8, hlong⟩ := (by simpa using hc1 : (ss.length : Int) ≤ 8 ∧ longL 100 ss = false)
 refine region_of_ops ?_
 refine ops_cut 2 (by kernel_rfl) ?_
 refine ops_St (bf := [0, 1]) (sp := [det _ 18 _, zown TrE 25 _ 0 19 (fun b : List Tr => b) (fun b : List Tr => b.map er = treesF ss) (fun b : List Tr => zTl (Gn none' w) b)]) [] st2 (by kernel_rfl) trivial
  ⟨Ob.d fun c => r_move rfl (c.p e0),
  Ob.zo (xs := fun b : List Tr => b) (Ψ := fun b : List Tr => b.map er = treesF ss) (Φ := fun b : List Tr => zTl (Gn none' w) b) fun {_ a_ _ _} c => ⟨_, _, (e_call1 rfl rfl Try.call18 (c.n 0 rfl)), (trees_c v ss _ (hS.at (st2.ext.trans c.J.ext)) (by omega)).mono (fun e w' ⟨v_, ts_, he_, hx_, ho_, ht_, hq_⟩ => ⟨v_, ts_, he_, hx_, ho_, hq_, c.tno (tag := 0) st2 hx_ ho_ ht_⟩)⟩, trivial⟩ ?_
 intro a4 w4 τ4 st4 f4
 obtain ⟨b4x19, e19⟩ : ∃ b, get a4 19 = b := ⟨_, rfl⟩
 obtain ⟨e2, -⟩ := f4.ks [(2, _)] ⟨e2, trivial⟩
 obtain ⟨ts1_, hro4, hqts1_, hz4⟩ := f4.zo 1 e19 rfl
 have r0 : ownR TrE 25 (ts1_) (τ4 0) b4x19 w4 := hro4
 have r1 : Fz (zTl (Gn none' w) ts1_) τ4 w4 := hz4
 clear f4
 refine only_mk ?_
 refine ops_St (bf := [0]) (sp := [det _ 3 _]) [io r0, iz r1] st4 (by kernel_rfl) ⟨r0, r1, trivial⟩
  ⟨Ob.d fun c => r_assign rfl (c.p e19), trivial⟩ ?_
 intro a5 w5 τ5 st5 f5
 obtain ⟨e2, -⟩ := f5.ks [(2, _)] ⟨e2, trivial⟩
 have e3 : get a5 3 = b4x19 := f5.v 0 rfl
 replace r0 := f5.io 0 rfl
 replace r1 := f5.iz 1 rfl
 clear f5
 have hx : XsOk (ts1_.map er) := by
   rw [hqts1_]
   exact trees_ok (fun s _ h => split_ok h) (fun s _ => split_proper s) (long_sum (by decide) hlong)
 have hxw := hx.wt
 rw [wt_map] at hxw
 have hxp := hx.parts
 rw [parts_map] at hxp
 have hxl := len_wt ts1_
 show Code.wp _ _ _ a5 w5
 refine wp_seq ?_
 refine region_St (bf := [0]) (sp := [det _ 4 _]) [io r0, iz r1] mixed st5 (by kernel_rfl) ⟨r0, r1, trivial⟩
  ⟨Ob.d fun c => r_assign rfl rfl, trivial⟩ ?_
 intro a6 w6 τ6 st6 f6
 obtain ⟨e2, e3, -⟩ := f6.ks [(2, _), (3, _)] ⟨e2, e3, trivial⟩
 have e4 : get a6 4 = (.slice none 0 0) := f6.v 0 rfl
 replace r0 := f6.io 0 rfl
 replace r1 := f6.iz 1 rfl
 clear f6
 show Code.wp _ _ _ a6 w6
 refine wp_seq ?_
 refine region_St (bf := [0, 1]) (sp := [det _ 5 _, det _ 6 _]) [io r0, iz r1] mixed st6 (by kernel_rfl) ⟨r0, r1, trivial⟩
  ⟨Ob.d fun c => r_assign rfl rfl,
  Ob.d fun c => r_assign rfl rfl, trivial⟩ ?_
 intro a7 w7 τ7 st7 f7
 obtain ⟨e2, e3, e4, -⟩ := f7.ks [(2, _), (3, _), (4, _)] ⟨e2, e3, e4, trivial⟩
 have e5 : get a7 5 = (.int .i64 (1)) := f7.v 0 rfl
 have e6 : get a7 6 = (.int .i64 (1)) := f7.v 1 rfl
 replace r0 := f7.io 0 rfl
 replace r1 := f7.iz 1 rfl
 clear f7
 show Code.wp _ _ _ a7 w7
 refine wp_seq ?_
 refine wp_seq ?_
 refine region_St (bf := [0]) (sp := [det _ 7 _]) [io r0, iz r1] mixed st7 (by kernel_rfl) ⟨r0, r1, trivial⟩
  ⟨Ob.d fun c => r_assign rfl rfl, trivial⟩ ?_
 intro a8 w8 τ8 st8 f8
 obtain ⟨e2, e3, e4, e5, e6, -⟩ := f8.ks [(2, _), (3, _), (4, _), (5, _), (6, _)] ⟨e2, e3, e4, e5, e6, trivial⟩
 have e7 : get a8 7 = (.int .i64 (0)) := f8.v 0 rfl
 replace r0 := f8.io 0 rfl
 replace r1 := f8.iz 1 rfl
 clear f8
 show Code.wp _ _ _ a8 w8
 refine wp_block ?_
 refine wp_loop (fun a_ w_ => ∃ (k : Nat) (u : Value) (τ : Nat → Foot), (k ≤ ts1_.length) ∧
      St (Nw w) w 98 a_ w_ τ ∧
      get a_ 4 = u ∧
      get a_ 5 = (.int .i64 (nF (ts1_.take k))) ∧
      get a_ 6 = (.int .i64 (mF0 (plainL (ts1_.take k)))) ∧
      get a_ 7 = (.int .i64 ((k : Int))) ∧
      get a_ 2 = (.bool (false)) ∧
      get a_ 3 = b4x19 ∧
      ownR TrE 25 (plainL (ts1_.take k)) (τ 5) u w_ ∧
      Fz (zTl (Gn none' w) (plainL (ts1_.take k))) τ w_ ∧
      ownR TrE 25 (ts1_) (τ 0) b4x19 w_ ∧
      Fz (zTl (Gn none' w) ts1_) τ w_) (fun a_ _ => ts1_.length - (intOf (get a_ 7)).toNat) ?_ ?_
 · refine ⟨0, (.slice none 0 0), τ8, ?_, st8, e4, (e5.trans (int_eq (by first | rfl | omega | (rw [nF_alt (by omega) (by assumption)]) | (rw [nF_no (by omega) (by assumption)]) | (rw [plain_alt (by omega) (by assumption)]) | (rw [plain_no (by omega) (by assumption), mF_seq (by assumption)]) | (rw [plain_no (by omega) (by assumption), mF_no (by assumption)])))), (e6.trans (int_eq (by first | rfl | omega | (rw [nF_alt (by omega) (by assumption)]) | (rw [nF_no (by omega) (by assumption)]) | (rw [plain_alt (by omega) (by assumption)]) | (rw [plain_no (by omega) (by assumption), mF_seq (by assumption)]) | (rw [plain_no (by omega) (by assumption), mF_no (by assumption)])))), (e7.trans (int_eq (by first | rfl | omega | (rw [nF_alt (by omega) (by assumption)]) | (rw [nF_no (by omega) (by assumption)]) | (rw [plain_alt (by omega) (by assumption)]) | (rw [plain_no (by omega) (by assumption), mF_seq (by assumption)]) | (rw [plain_no (by omega) (by assumption), mF_no (by assumption)])))), e2, e3, ?_, ?_, r0, r1⟩
   · omega
   · exact ownR.nil _ _ _ _
   · exact Fz.tn _ _ _
 intro a9 w9 hI
 obtain ⟨k, u, τ9, q0, st9, e4, e5, e6, e7, e2, e3, r5, r6, r0, r1⟩ := hI
 have hn1 := nF_rg (ts1_.take k)
 have hm1 := mF_rg (plainL (ts1_.take k))
 have hs1 := (sum_le (f := partsF) (ts := ts1_) (fun t _ => by have := partsF_pos t; omega) k).2
 have hs2 := sub_sum (f := partsF) (fun t => by have := partsF_pos t; omega) (fun x => !decide (x.k = 1)) (ts1_.take k)
 have hs3 : sumL ((plainL (ts1_.take k)).map partsF) ≤ sumL ((ts1_.take k).map partsF) := hs2
 have hpl := len_parts (plainL (ts1_.take k))
 have hpm : k < ts1_.length → partsF (nth ts1_ (k : Int)) ≤ 210 := fun h_ => Int.le_trans (sum_mem (f := partsF) (fun t _ => by have := partsF_pos t; omega) (nth_memI (by omega) (by omega))) hxp
 have hpp := partsF_pos (nth ts1_ (k : Int))
 have m7 := e7
 refine wp_seq ?_
 refine wp_seq ?_
 refine region_St (bf := [0, 0, 2, 7]) (sp := [det _ 20 _, det _ 21 _, det _ 22 _, det _ 23 _]) [io r0, iz r1, Ini.any _, Ini.any _, Ini.any _, io r5, iz r6] mixed st9 (by kernel_rfl) ⟨r0, r1, trivial, trivial, trivial, r5, r6, trivial⟩
  ⟨Ob.d fun c => r_move rfl (c.p e7),
  Ob.d fun c => r_move rfl (c.p e3),
  Ob.d fun c => r_len rfl Try.underlying23 (c.n 1 rfl) r0.isSl,
  Ob.d fun c => r_lss rfl (c.n 0 rfl) (c.n 2 rfl), trivial⟩ ?_
 intro a10 w10 τ10 st10 f10
 obtain ⟨e2, e3, e4, e5, e6, e7, -⟩ := f10.ks [(2, _), (3, _), (4, _), (5, _), (6, _), (7, _)] ⟨e2, e3, e4, e5, e6, e7, trivial⟩
 have e23 : get a10 23 = (.bool (decide ((k : Int) < (ts1_.length : Int)))) := f10.v 3 rfl
 replace r0 := f10.io 0 rfl
 replace r1 := f10.iz 1 rfl
 replace r5 := f10.io 5 rfl
 replace r6 := f10.iz 6 rfl
 clear f10
 show Code.wp _ _ _ a10 w10
 refine wp_cond_split (t := decide ((k : Int) < (ts1_.length : Int))) e23 (fun hc2 => ?_) (fun hc2 => ?_)
 · try simp only [decide_eq_true_eq] at hc2
   refine wp_skip ?_
   show Code.wp _ _ _ a10 w10
   refine wp_seq ?_
   refine wp_block ?_
   refine wp_seq ?_
   refine region_St (bf := [0, 0, 0, 6, 14, 30, 63, 127]) (sp := [det _ 26 _, det _ 27 _, det _ 28 _, det _ 29 _, det _ 30 _, det _ 31 _, det _ 32 _, det _ 5 _]) [io r0, iz r1, Ini.any _, Ini.any _, Ini.any _, io r5, iz r6] mixed st10 (by kernel_rfl) ⟨r0, r1, trivial, trivial, trivial, r5, r6, trivial⟩
    ⟨Ob.d fun c => r_move rfl (c.p e5),
    Ob.d fun c => r_move rfl (c.p e3),
    Ob.d fun c => r_move rfl (c.p e7),
    Ob.d fun c => r_indexAddr rfl Try.underlying23 Try.sizeOf25 (c.n 1 rfl) r0.isSl (c.n 2 rfl) (by omega) (by omega),
    Ob.d fun c => r_loadN (vs := [(.int .i64 ((nth ts1_ ((k : Int))).k)), (.string ((nth ts1_ ((k : Int))).ch)), (.bool ((nth ts1_ ((k : Int))).ng)), (nth ts1_ ((k : Int))).rv.v, (.int .i64 ((nth ts1_ ((k : Int))).mn)), (.int .i64 ((nth ts1_ ((k : Int))).mx)), (.bool ((nth ts1_ ((k : Int))).lz)), (nth ts1_ ((k : Int))).kv.v]) rfl Try.isAgg25 Try.sizeOf25 (c.n 3 rfl) rfl (fun _ _ hj => ((c.io 0 rfl).1.sl).elem (nth_some (i := (k : Int)) (by omega) (by omega)) hj),
    Ob.c fun c => ⟨_, _, (e_call1 rfl rfl Try.call19 (c.n 4 rfl)), parts_c (nth ts1_ ((k : Int))) _ (zs (ze (c.iz 1 rfl) (by omega) (by omega))) (by omega)⟩,
    Ob.d fun c => r_add rfl (c.n 0 rfl) (c.n 5 rfl) (by omega),
    Ob.d fun c => r_assign rfl (c.n 6 rfl), trivial⟩ ?_
   intro a11 w11 τ11 st11 f11
   obtain ⟨e2, e3, e4, e6, e7, e23, -⟩ := f11.ks [(2, _), (3, _), (4, _), (6, _), (7, _), (23, _)] ⟨e2, e3, e4, e6, e7, e23, trivial⟩
   have e5 : get a11 5 = (.int .i64 (nF (ts1_.take k) + (partsF (nth ts1_ ((k : Int)))))) := f11.v 7 rfl
   replace r0 := f11.io 0 rfl
   replace r1 := f11.iz 1 rfl
   replace r5 := f11.io 5 rfl
   replace r6 := f11.iz 6 rfl
   clear f11
   show Code.wp _ _ _ a11 w11
   refine wp_seq ?_
   refine wp_seq ?_
   refine region_St (bf := [0, 0, 3, 7, 15, 31]) (sp := [det _ 33 _, det _ 34 _, det _ 35 _, det _ 36 _, det _ 37 _, det _ 38 _]) [io r0, iz r1, Ini.any _, Ini.any _, Ini.any _, io r5, iz r6] mixed st11 (by kernel_rfl) ⟨r0, r1, trivial, trivial, trivial, r5, r6, trivial⟩
    ⟨Ob.d fun c => r_move rfl (c.p e3),
    Ob.d fun c => r_move rfl (c.p e7),
    Ob.d fun c => r_indexAddr rfl Try.underlying23 Try.sizeOf25 (c.n 0 rfl) r0.isSl (c.n 1 rfl) (by omega) (by omega),
    Ob.d fun c => r_fieldAddr rfl Try.underlying25 rfl rfl Try.sizeOf3 (c.n 2 rfl),
    Ob.d fun c => r_load1 rfl Try.isAgg3 (c.n 3 rfl) (((c.io 0 rfl).1.sl).elem (j := 0) (nth_some (i := (k : Int)) (by omega) (by omega)) rfl),
    Ob.d fun c => r_eql rfl (c.n 4 rfl) rfl, trivial⟩ ?_
   intro a12 w12 τ12 st12 f12
   obtain ⟨e2, e3, e4, e5, e6, e7, e23, -⟩ := f12.ks [(2, _), (3, _), (4, _), (5, _), (6, _), (7, _), (23, _)] ⟨e2, e3, e4, e5, e6, e7, e23, trivial⟩
   have e38 : get a12 38 = (.bool (decide ((nth ts1_ ((k : Int))).k = 1))) := f12.v 5 rfl
   replace r0 := f12.io 0 rfl
   replace r1 := f12.iz 1 rfl
   replace r5 := f12.io 5 rfl
   replace r6 := f12.iz 6 rfl
   clear f12
   show Code.wp _ _ _ a12 w12
   refine wp_cond_split (t := decide ((nth ts1_ ((k : Int))).k = 1)) e38 (fun hc3 => ?_) (fun hc3 => ?_)
   · try simp only [decide_eq_true_eq] at hc3
     refine wp_seq ?_
     refine region_St (bf := [0, 1, 3]) (sp := [det _ 39 _, det _ 40 _, det _ 5 _]) [io r0, iz r1, Ini.any _, Ini.any _, Ini.any _, io r5, iz r6] mixed st12 (by kernel_rfl) ⟨r0, r1, trivial, trivial, trivial, r5, r6, trivial⟩
      ⟨Ob.d fun c => r_move rfl (c.p e5),
      Ob.d fun c => r_sub rfl (c.n 0 rfl) rfl (by omega),
      Ob.d fun c => r_assign rfl (c.n 1 rfl), trivial⟩ ?_
     intro a13 w13 τ13 st13 f13
     obtain ⟨e2, e3, e4, e6, e7, e23, e38, -⟩ := f13.ks [(2, _), (3, _), (4, _), (6, _), (7, _), (23, _), (38, _)] ⟨e2, e3, e4, e6, e7, e23, e38, trivial⟩
     have e5 : get a13 5 = (.int .i64 (nF (ts1_.take k) + (partsF (nth ts1_ ((k : Int)))) - 1)) := f13.v 2 rfl
     replace r0 := f13.io 0 rfl
     replace r1 := f13.iz 1 rfl
     replace r5 := f13.io 5 rfl
     replace r6 := f13.iz 6 rfl
     clear f13
     show Code.wp _ _ _ a13 w13
     refine wp_exit ?_
     repeat (with_reducible refine then_exit ?_)
     refine exit_here ?_
     show Code.wp _ _ _ a13 w13
     refine region_St (bf := [0, 1, 3]) (sp := [det _ 24 _, det _ 25 _, det _ 7 _]) [io r0, iz r1, Ini.any _, Ini.any _, Ini.any _, io r5, iz r6] mixed st13 (by kernel_rfl) ⟨r0, r1, trivial, trivial, trivial, r5, r6, trivial⟩
      ⟨Ob.d fun c => r_move rfl (c.p e7),
      Ob.d fun c => r_add rfl (c.n 0 rfl) rfl (by omega),
      Ob.d fun c => r_assign rfl (c.n 1 rfl), trivial⟩ ?_
     intro a14 w14 τ14 st14 f14
     obtain ⟨e2, e3, e4, e5, e6, e23, e38, -⟩ := f14.ks [(2, _), (3, _), (4, _), (5, _), (6, _), (23, _), (38, _)] ⟨e2, e3, e4, e5, e6, e23, e38, trivial⟩
     have e7 : get a14 7 = (.int .i64 ((k : Int) + 1)) := f14.v 2 rfl
     replace r0 := f14.io 0 rfl
     replace r1 := f14.iz 1 rfl
     replace r5 := f14.io 5 rfl
     replace r6 := f14.iz 6 rfl
     clear f14
     refine ⟨⟨k + 1, u, τ14, ?_, st14, e4, (e5.trans (int_eq (by first | rfl | omega | (rw [nF_alt (by omega) (by assumption)]) | (rw [nF_no (by omega) (by assumption)]) | (rw [plain_alt (by omega) (by assumption)]) | (rw [plain_no (by omega) (by assumption), mF_seq (by assumption)]) | (rw [plain_no (by omega) (by assumption), mF_no (by assumption)])))), (e6.trans (int_eq (by first | rfl | omega | (rw [nF_alt (by omega) (by assumption)]) | (rw [nF_no (by omega) (by assumption)]) | (rw [plain_alt (by omega) (by assumption)]) | (rw [plain_no (by omega) (by assumption), mF_seq (by assumption)]) | (rw [plain_no (by omega) (by assumption), mF_no (by assumption)])))), (e7.trans (int_eq (by first | rfl | omega | (rw [nF_alt (by omega) (by assumption)]) | (rw [nF_no (by omega) (by assumption)]) | (rw [plain_alt (by omega) (by assumption)]) | (rw [plain_no (by omega) (by assumption), mF_seq (by assumption)]) | (rw [plain_no (by omega) (by assumption), mF_no (by assumption)])))), e2, e3, ?_, ?_, r0, r1⟩, ?_⟩
     · omega
     · exact r5.cast (by first | exact plain_no (by omega) (by assumption) | exact plain_alt (by omega) (by assumption))
     · exact Fz_cast r6 (plain_alt (by omega) (by assumption))
     · simp only [m7, e7, intOf]; omega
   try simp only [decide_eq_false_iff_not] at hc3
   refine wp_skip ?_
   show Code.wp _ _ _ a12 w12
   refine wp_seq ?_
   refine region_St (bf := [0, 0, 0, 6, 14, 30, 63, 127]) (sp := [det _ 41 _, det _ 42 _, det _ 43 _, det _ 44 _, det _ 45 _, own TrE 25 _ 2 46 ([(nth ts1_ ((k : Int)))]), own _ _ _ 5 47 _, own _ _ _ 5 4 _]) [io r0, iz r1, Ini.any _, Ini.any _, Ini.any _, io r5, iz r6] mixed st12 (by kernel_rfl) ⟨r0, r1, trivial, trivial, trivial, r5, r6, trivial⟩
    ⟨Ob.d fun c => r_move rfl (c.p e4),
    Ob.d fun c => r_move rfl (c.p e3),
    Ob.d fun c => r_move rfl (c.p e7),
    Ob.d fun c => r_indexAddr rfl Try.underlying23 Try.sizeOf25 (c.n 1 rfl) r0.isSl (c.n 2 rfl) (by omega) (by omega),
    Ob.d fun c => r_loadN (vs := [(.int .i64 ((nth ts1_ ((k : Int))).k)), (.string ((nth ts1_ ((k : Int))).ch)), (.bool ((nth ts1_ ((k : Int))).ng)), (nth ts1_ ((k : Int))).rv.v, (.int .i64 ((nth ts1_ ((k : Int))).mn)), (.int .i64 ((nth ts1_ ((k : Int))).mx)), (.bool ((nth ts1_ ((k : Int))).lz)), (nth ts1_ ((k : Int))).kv.v]) rfl Try.isAgg25 Try.sizeOf25 (c.n 3 rfl) rfl (fun _ _ hj => ((c.io 0 rfl).1.sl).elem (nth_some (i := (k : Int)) (by omega) (by omega)) hj),
    Ob.buildSlice (cells := #[(.int .i64 ((nth ts1_ ((k : Int))).k)), (.string ((nth ts1_ ((k : Int))).ch)), (.bool ((nth ts1_ ((k : Int))).ng)), (nth ts1_ ((k : Int))).rv.v, (.int .i64 ((nth ts1_ ((k : Int))).mn)), (.int .i64 ((nth ts1_ ((k : Int))).mx)), (.bool ((nth ts1_ ((k : Int))).lz)), (nth ts1_ ((k : Int))).kv.v]) rfl rfl rfl rfl Try.underlying23 Try.sizeOf25 Try.zeroValue25 rfl (by decide) (by decide) (fun _ _ _ _ c => fill1 (c.n 4 rfl) (by kernel_rfl)) rfl,
    Ob.append (t0 := 4) rfl rfl rfl rfl Try.underlying23 (i := Try.t25) rfl rfl rfl rfl (by simp only [maxLen]; (try simp); omega) (by show _ * 104 ≤ _; (try simp); omega) (fun _ _ _ _ c => ⟨c.ip 5 rfl e4, c.sm (c.n 0 rfl) e4, ⟨_, rfl, (c.ro 5 rfl).1.sl⟩⟩),
    Ob.moveT (t0 := 47) rfl rfl rfl rfl rfl (.inr rfl) (fun _ _ _ _ c => ⟨c.ro 6 rfl, rfl⟩), trivial⟩ ?_
   intro a15 w15 τ15 st15 f15
   obtain ⟨b15x46, e46⟩ : ∃ b, get a15 46 = b := ⟨_, rfl⟩
   obtain ⟨b15x4, e4⟩ : ∃ b, get a15 4 = b := ⟨_, rfl⟩
   obtain ⟨e2, e3, e5, e6, e7, e23, e38, -⟩ := f15.ks [(2, _), (3, _), (5, _), (6, _), (7, _), (23, _), (38, _)] ⟨e2, e3, e5, e6, e7, e23, e38, trivial⟩
   replace r0 := f15.io 0 rfl
   replace r1 := f15.iz 1 rfl
   have r2 : ownR TrE 25 ([(nth ts1_ ((k : Int)))]) (τ15 2) b15x46 w15 := f15.ro 5 e46 rfl
   replace r5 : ownR TrE 25 ((plainL (ts1_.take k)) ++ [(nth ts1_ ((k : Int)))]) (τ15 5) b15x4 w15 := f15.ro 7 e4 rfl
   replace r6 := f15.iz 6 rfl
   clear f15
   show Code.wp _ _ _ a15 w15
   refine wp_seq ?_
   refine region_St (bf := [0, 0, 0, 6, 14, 30, 63, 127]) (sp := [det _ 48 _, det _ 49 _, det _ 50 _, det _ 51 _, det _ 52 _, det _ 53 _, det _ 54 _, det _ 6 _]) [io r0, iz r1, io r2, Ini.any _, Ini.any _, io r5, iz r6] mixed st15 (by kernel_rfl) ⟨r0, r1, r2, trivial, trivial, r5, r6, trivial⟩
    ⟨Ob.d fun c => r_move rfl (c.p e6),
    Ob.d fun c => r_move rfl (c.p e3),
    Ob.d fun c => r_move rfl (c.p e7),
    Ob.d fun c => r_indexAddr rfl Try.underlying23 Try.sizeOf25 (c.n 1 rfl) r0.isSl (c.n 2 rfl) (by omega) (by omega),
    Ob.d fun c => r_loadN (vs := [(.int .i64 ((nth ts1_ ((k : Int))).k)), (.string ((nth ts1_ ((k : Int))).ch)), (.bool ((nth ts1_ ((k : Int))).ng)), (nth ts1_ ((k : Int))).rv.v, (.int .i64 ((nth ts1_ ((k : Int))).mn)), (.int .i64 ((nth ts1_ ((k : Int))).mx)), (.bool ((nth ts1_ ((k : Int))).lz)), (nth ts1_ ((k : Int))).kv.v]) rfl Try.isAgg25 Try.sizeOf25 (c.n 3 rfl) rfl (fun _ _ hj => ((c.io 0 rfl).1.sl).elem (nth_some (i := (k : Int)) (by omega) (by omega)) hj),
    Ob.c fun c => ⟨_, _, (e_call1 rfl rfl Try.call19 (c.n 4 rfl)), parts_c (nth ts1_ ((k : Int))) _ (zs (ze (c.iz 1 rfl) (by omega) (by omega))) (by omega)⟩,
    Ob.d fun c => r_add rfl (c.n 0 rfl) (c.n 5 rfl) (by omega),
    Ob.d fun c => r_assign rfl (c.n 6 rfl), trivial⟩ ?_
   intro a16 w16 τ16 st16 f16
   obtain ⟨e2, e3, e4, e5, e7, e23, e38, -⟩ := f16.ks [(2, _), (3, _), (4, _), (5, _), (7, _), (23, _), (38, _)] ⟨e2, e3, e4, e5, e7, e23, e38, trivial⟩
   have e6 : get a16 6 = (.int .i64 (mF0 (plainL (ts1_.take k)) + (partsF (nth ts1_ ((k : Int)))))) := f16.v 7 rfl
   replace r0 := f16.io 0 rfl
   replace r1 := f16.iz 1 rfl
   replace r2 := f16.io 2 rfl
   replace r5 := f16.io 5 rfl
   replace r6 := f16.iz 6 rfl
   clear f16
   show Code.wp _ _ _ a16 w16
   refine wp_seq ?_
   refine region_St (bf := [0, 0, 3, 7, 15, 31]) (sp := [det _ 55 _, det _ 56 _, det _ 57 _, det _ 58 _, det _ 59 _, det _ 60 _]) [io r0, iz r1, io r2, Ini.any _, Ini.any _, io r5, iz r6] mixed st16 (by kernel_rfl) ⟨r0, r1, r2, trivial, trivial, r5, r6, trivial⟩
    ⟨Ob.d fun c => r_move rfl (c.p e3),
    Ob.d fun c => r_move rfl (c.p e7),
    Ob.d fun c => r_indexAddr rfl Try.underlying23 Try.sizeOf25 (c.n 0 rfl) r0.isSl (c.n 1 rfl) (by omega) (by omega),
    Ob.d fun c => r_fieldAddr rfl Try.underlying25 rfl rfl Try.sizeOf3 (c.n 2 rfl),
    Ob.d fun c => r_load1 rfl Try.isAgg3 (c.n 3 rfl) (((c.io 0 rfl).1.sl).elem (j := 0) (nth_some (i := (k : Int)) (by omega) (by omega)) rfl),
    Ob.d fun c => r_eql rfl (c.n 4 rfl) rfl, trivial⟩ ?_
   intro a17 w17 τ17 st17 f17
   obtain ⟨e2, e3, e4, e5, e6, e7, e23, e38, -⟩ := f17.ks [(2, _), (3, _), (4, _), (5, _), (6, _), (7, _), (23, _), (38, _)] ⟨e2, e3, e4, e5, e6, e7, e23, e38, trivial⟩
   have e60 : get a17 60 = (.bool (decide ((nth ts1_ ((k : Int))).k = 0))) := f17.v 5 rfl
   replace r0 := f17.io 0 rfl
   replace r1 := f17.iz 1 rfl
   replace r2 := f17.io 2 rfl
   replace r5 := f17.io 5 rfl
   replace r6 := f17.iz 6 rfl
   clear f17
   show Code.wp _ _ _ a17 w17
   refine wp_cond_split (t := decide ((nth ts1_ ((k : Int))).k = 0)) e60 (fun hc4 => ?_) (fun hc4 => ?_)
   · try simp only [decide_eq_true_eq] at hc4
     refine region_St (bf := [0, 1, 3]) (sp := [det _ 61 _, det _ 62 _, det _ 6 _]) [io r0, iz r1, io r2, Ini.any _, Ini.any _, io r5, iz r6] mixed st17 (by kernel_rfl) ⟨r0, r1, r2, trivial, trivial, r5, r6, trivial⟩
      ⟨Ob.d fun c => r_move rfl (c.p e6),
      Ob.d fun c => r_sub rfl (c.n 0 rfl) rfl (by omega),
      Ob.d fun c => r_assign rfl (c.n 1 rfl), trivial⟩ ?_
     intro a18 w18 τ18 st18 f18
     obtain ⟨e2, e3, e4, e5, e7, e23, e38, e60, -⟩ := f18.ks [(2, _), (3, _), (4, _), (5, _), (7, _), (23, _), (38, _), (60, _)] ⟨e2, e3, e4, e5, e7, e23, e38, e60, trivial⟩
     have e6 : get a18 6 = (.int .i64 (mF0 (plainL (ts1_.take k)) + (partsF (nth ts1_ ((k : Int)))) - 1)) := f18.v 2 rfl
     replace r0 := f18.io 0 rfl
     replace r1 := f18.iz 1 rfl
     replace r2 := f18.io 2 rfl
     replace r5 := f18.io 5 rfl
     replace r6 := f18.iz 6 rfl
     clear f18
     show _
     show Code.wp _ _ _ a18 w18
     refine region_St (bf := [0, 1, 3]) (sp := [det _ 24 _, det _ 25 _, det _ 7 _]) [io r0, iz r1, io r2, Ini.any _, Ini.any _, io r5, iz r6] mixed st18 (by kernel_rfl) ⟨r0, r1, r2, trivial, trivial, r5, r6, trivial⟩
      ⟨Ob.d fun c => r_move rfl (c.p e7),
      Ob.d fun c => r_add rfl (c.n 0 rfl) rfl (by omega),
      Ob.d fun c => r_assign rfl (c.n 1 rfl), trivial⟩ ?_
     intro a19 w19 τ19 st19 f19
     obtain ⟨e2, e3, e4, e5, e6, e23, e38, e60, -⟩ := f19.ks [(2, _), (3, _), (4, _), (5, _), (6, _), (23, _), (38, _), (60, _)] ⟨e2, e3, e4, e5, e6, e23, e38, e60, trivial⟩
     have e7 : get a19 7 = (.int .i64 ((k : Int) + 1)) := f19.v 2 rfl
     replace r0 := f19.io 0 rfl
     replace r1 := f19.iz 1 rfl
     replace r2 := f19.io 2 rfl
     replace r5 := f19.io 5 rfl
     replace r6 := f19.iz 6 rfl
     clear f19
     refine ⟨⟨k + 1, b15x4, τ19, ?_, st19, e4, (e5.trans (int_eq (by first | rfl | omega | (rw [nF_alt (by omega) (by assumption)]) | (rw [nF_no (by omega) (by assumption)]) | (rw [plain_alt (by omega) (by assumption)]) | (rw [plain_no (by omega) (by assumption), mF_seq (by assumption)]) | (rw [plain_no (by omega) (by assumption), mF_no (by assumption)])))), (e6.trans (int_eq (by first | rfl | omega | (rw [nF_alt (by omega) (by assumption)]) | (rw [nF_no (by omega) (by assumption)]) | (rw [plain_alt (by omega) (by assumption)]) | (rw [plain_no (by omega) (by assumption), mF_seq (by assumption)]) | (rw [plain_no (by omega) (by assumption), mF_no (by assumption)])))), (e7.trans (int_eq (by first | rfl | omega | (rw [nF_alt (by omega) (by assumption)]) | (rw [nF_no (by omega) (by assumption)]) | (rw [plain_alt (by omega) (by assumption)]) | (rw [plain_no (by omega) (by assumption), mF_seq (by assumption)]) | (rw [plain_no (by omega) (by assumption), mF_no (by assumption)])))), e2, e3, ?_, ?_, r0, r1⟩, ?_⟩
     · omega
     · exact r5.cast (by first | exact plain_no (by omega) (by assumption) | exact plain_alt (by omega) (by assumption))
     · exact Fz_cast (Fz.snoc r6 (r1.e (by omega) (by omega))) (plain_no (by omega) (by assumption))
     · simp only [m7, e7, intOf]; omega
   try simp only [decide_eq_false_iff_not] at hc4
   refine wp_skip ?_
   show _
   show Code.wp _ _ _ a17 w17
   refine region_St (bf := [0, 1, 3]) (sp := [det _ 24 _, det _ 25 _, det _ 7 _]) [io r0, iz r1, io r2, Ini.any _, Ini.any _, io r5, iz r6] mixed st17 (by kernel_rfl) ⟨r0, r1, r2, trivial, trivial, r5, r6, trivial⟩
    ⟨Ob.d fun c => r_move rfl (c.p e7),
    Ob.d fun c => r_add rfl (c.n 0 rfl) rfl (by omega),
    Ob.d fun c => r_assign rfl (c.n 1 rfl), trivial⟩ ?_
   intro a20 w20 τ20 st20 f20
   obtain ⟨e2, e3, e4, e5, e6, e23, e38, e60, -⟩ := f20.ks [(2, _), (3, _), (4, _), (5, _), (6, _), (23, _), (38, _), (60, _)] ⟨e2, e3, e4, e5, e6, e23, e38, e60, trivial⟩
   have e7 : get a20 7 = (.int .i64 ((k : Int) + 1)) := f20.v 2 rfl
   replace r0 := f20.io 0 rfl
   replace r1 := f20.iz 1 rfl
   replace r2 := f20.io 2 rfl
   replace r5 := f20.io 5 rfl
   replace r6 := f20.iz 6 rfl
   clear f20
   refine ⟨⟨k + 1, b15x4, τ20, ?_, st20, e4, (e5.trans (int_eq (by first | rfl | omega | (rw [nF_alt (by omega) (by assumption)]) | (rw [nF_no (by omega) (by assumption)]) | (rw [plain_alt (by omega) (by assumption)]) | (rw [plain_no (by omega) (by assumption), mF_seq (by assumption)]) | (rw [plain_no (by omega) (by assumption), mF_no (by assumption)])))), (e6.trans (int_eq (by first | rfl | omega | (rw [nF_alt (by omega) (by assumption)]) | (rw [nF_no (by omega) (by assumption)]) | (rw [plain_alt (by omega) (by assumption)]) | (rw [plain_no (by omega) (by assumption), mF_seq (by assumption)]) | (rw [plain_no (by omega) (by assumption), mF_no (by assumption)])))), (e7.trans (int_eq (by first | rfl | omega | (rw [nF_alt (by omega) (by assumption)]) | (rw [nF_no (by omega) (by assumption)]) | (rw [plain_alt (by omega) (by assumption)]) | (rw [plain_no (by omega) (by assumption), mF_seq (by assumption)]) | (rw [plain_no (by omega) (by assumption), mF_no (by assumption)])))), e2, e3, ?_, ?_, r0, r1⟩, ?_⟩
   · omega
   · exact r5.cast (by first | exact plain_no (by omega) (by assumption) | exact plain_alt (by omega) (by assumption))
   · exact Fz_cast (Fz.snoc r6 (r1.e (by omega) (by omega))) (plain_no (by omega) (by assumption))
   · simp only [m7, e7, intOf]; omega
 try simp only [decide_eq_false_iff_not, Int.not_lt] at hc2
 refine wp_exit ?_
 repeat (with_reducible refine then_exit ?_)
 refine exit_here ?_
 show Code.wp _ _ _ a10 w10
 refine wp_seq ?_
 have hk_ : ts1_.take k = ts1_ := List.take_of_length_le (by omega)
 have hpw : sumL ((plainL (ts1_.take k)).map wtF) ≤ 300000 := by rw [hk_]; exact Int.le_trans (sub_sum (f := wtF) (fun t => by have := wtF_pos t; omega) (fun x => !decide (x.k = 1)) ts1_) hxw
 refine region_of_ops ?_
 refine ops_cut 2 (by kernel_rfl) ?_
 refine ops_St (bf := [0, 1]) (sp := [det _ 63 _, zdet _ 64 (fun b : Tr => b.v) (fun b : Tr => er b = altF (ts1_.map er)) (fun b : Tr => zTr (Gn none' w) b)]) [io r0, iz r1, Ini.any _, Ini.any _, Ini.any _, io r5, iz r6] st10 (by kernel_rfl) ⟨r0, r1, trivial, trivial, trivial, r5, r6, trivial⟩
  ⟨Ob.d fun c => r_move rfl (c.p e3),
  Ob.zc (f := fun b : Tr => b.v) (Ψ := fun b : Tr => er b = altF (ts1_.map er)) (Φ := fun b : Tr => zTr (Gn none' w) b) fun {_ a_ _ _} c => ⟨_, _, (e_call1 rfl rfl Try.call15 (c.n 0 rfl)), (alt_c b4x19 ts1_ _ (zl (c.iz 1 rfl) (c.io 0 rfl).1.sl) (by omega)).mono (fun e w' ⟨t_, he_, hx_, ht_, hq_⟩ => ⟨t_, he_, hx_, hq_, c.tn st10 hx_ ht_⟩)⟩, trivial⟩ ?_
 intro a21 w21 τ21 st21 f21
 obtain ⟨e2, e4, e5, e6, -⟩ := f21.ks [(2, _), (4, _), (5, _), (6, _)] ⟨e2, e4, e5, e6, trivial⟩
 obtain ⟨t2_, e64, hqt2_, hz21⟩ := f21.zd 1 rfl
 have e64 : get a21 64 = (.agg #[(.int .i64 (t2_.k)), (.string (t2_.ch)), (.bool (t2_.ng)), t2_.rv.v, (.int .i64 (t2_.mn)), (.int .i64 (t2_.mx)), (.bool (t2_.lz)), t2_.kv.v]) := e64
 have hwt2_ := wt_altb hqt2_
 replace r1 := f21.iz 1 rfl
 replace r5 := f21.io 5 rfl
 replace r6 := f21.iz 6 rfl
 have r0 : Fz (zTr (Gn none' w) t2_) τ21 w21 := hz21
 clear f21
 refine only_mk ?_
 refine ops_cut 2 (by kernel_rfl) ?_
 refine ops_St (bf := [0, 1]) (sp := [det _ 65 _, zdet _ 66 (fun b : Tr => b.v) (fun b : Tr => er b = seqF ((plainL (ts1_.take k)).map er)) (fun b : Tr => zTr (Gn none' w) b)]) [iz r0, iz r1, Ini.any _, Ini.any _, Ini.any _, io r5, iz r6] st21 (by kernel_rfl) ⟨r0, r1, trivial, trivial, trivial, r5, r6, trivial⟩
  ⟨Ob.d fun c => r_move rfl (c.p e4),
  Ob.zc (f := fun b : Tr => b.v) (Ψ := fun b : Tr => er b = seqF ((plainL (ts1_.take k)).map er)) (Φ := fun b : Tr => zTr (Gn none' w) b) fun {_ a_ _ _} c => ⟨_, _, (e_call1 rfl rfl Try.call13 (c.n 0 rfl)), (seq_c u (plainL (ts1_.take k)) _ (zl (c.iz 6 rfl) (c.io 5 rfl).1.sl) (by omega)).mono (fun e w' ⟨t_, he_, hx_, ht_, hq_⟩ => ⟨t_, he_, hx_, hq_, c.tn st21 hx_ ht_⟩)⟩, trivial⟩ ?_
 intro a22 w22 τ22 st22 f22
 obtain ⟨e2, e5, e6, e64, -⟩ := f22.ks [(2, _), (5, _), (6, _), (64, _)] ⟨e2, e5, e6, e64, trivial⟩
 obtain ⟨t3_, e66, hqt3_, hz22⟩ := f22.zd 1 rfl
 have e66 : get a22 66 = (.agg #[(.int .i64 (t3_.k)), (.string (t3_.ch)), (.bool (t3_.ng)), t3_.rv.v, (.int .i64 (t3_.mn)), (.int .i64 (t3_.mx)), (.bool (t3_.lz)), t3_.kv.v]) := e66
 have hwt3_ := wt_seqb hqt3_
 replace r0 := f22.iz 0 rfl
 replace r1 := f22.iz 1 rfl
 replace r6 := f22.iz 6 rfl
 have r2 : Fz (zTr (Gn none' w) t3_) τ22 w22 := hz22
 clear f22
 refine only_mk ?_
 refine ops_St (bf := [0, 1, 3, 7]) (sp := [box _ _ 3 8 [(.int .i64 (0)), (.string ((⟨#[]⟩ : ByteArray))), (.bool (false)), (.slice none 0 0), (.int .i64 (0)), (.int .i64 (0)), (.bool (false)), (.slice none 0 0)], box _ _ 4 9 [(.int .i64 (0)), (.string ((⟨#[]⟩ : ByteArray))), (.bool (false)), (.slice none 0 0), (.int .i64 (0)), (.int .i64 (0)), (.bool (false)), (.slice none 0 0)], box _ _ 3 8 [(.int .i64 (t2_.k)), (.string (t2_.ch)), (.bool (t2_.ng)), t2_.rv.v, (.int .i64 (t2_.mn)), (.int .i64 (t2_.mx)), (.bool (t2_.lz)), t2_.kv.v], box _ _ 4 9 [(.int .i64 (t3_.k)), (.string (t3_.ch)), (.bool (t3_.ng)), t3_.rv.v, (.int .i64 (t3_.mn)), (.int .i64 (t3_.mx)), (.bool (t3_.lz)), t3_.kv.v]]) [iz r0, iz r1, iz r2, Ini.any _, Ini.any _, Ini.any _, iz r6] st22 (by kernel_rfl) ⟨r0, r1, r2, trivial, trivial, trivial, r6, trivial⟩
  ⟨Ob.alloc rfl rfl rfl rfl Try.zeroValue25 rfl,
  Ob.alloc rfl rfl rfl rfl Try.zeroValue25 rfl,
  Ob.storeBox (off := 0) (v := (.agg #[(.int .i64 (t2_.k)), (.string (t2_.ch)), (.bool (t2_.ng)), t2_.rv.v, (.int .i64 (t2_.mn)), (.int .i64 (t2_.mx)), (.bool (t2_.lz)), t2_.kv.v])) rfl rfl rfl rfl Try.sizeOf25 (Nat.le_of_ble_eq_true rfl) (by simp [Value.cells, Value.oneCell', Sv.v]) rfl (fun _ _ _ _ c => ⟨c.rb 0 rfl, (c.rb 0 rfl).ptr, (c.p e64)⟩),
  Ob.storeBox (off := 0) (v := (.agg #[(.int .i64 (t3_.k)), (.string (t3_.ch)), (.bool (t3_.ng)), t3_.rv.v, (.int .i64 (t3_.mn)), (.int .i64 (t3_.mx)), (.bool (t3_.lz)), t3_.kv.v])) rfl rfl rfl rfl Try.sizeOf25 (Nat.le_of_ble_eq_true rfl) (by simp [Value.cells, Value.oneCell', Sv.v]) rfl (fun _ _ _ _ c => ⟨c.rb 1 rfl, (c.rb 1 rfl).ptr, (c.p e66)⟩), trivial⟩ ?_
 intro a23 w23 τ23 st23 f23
 obtain ⟨b23x8, e8⟩ : ∃ b, get a23 8 = b := ⟨_, rfl⟩
 obtain ⟨b23x9, e9⟩ : ∃ b, get a23 9 = b := ⟨_, rfl⟩
 obtain ⟨e2, e5, e6, -⟩ := f23.ks [(2, _), (5, _), (6, _)] ⟨e2, e5, e6, trivial⟩
 replace r0 := f23.iz 0 rfl
 replace r1 := f23.iz 1 rfl
 replace r2 := f23.iz 2 rfl
 have r3 : boxR 25 [(.int .i64 (t2_.k)), (.string (t2_.ch)), (.bool (t2_.ng)), t2_.rv.v, (.int .i64 (t2_.mn)), (.int .i64 (t2_.mx)), (.bool (t2_.lz)), t2_.kv.v] (τ23 3) b23x8 w23 := f23.rb 2 e8 rfl
 have r4 : boxR 25 [(.int .i64 (t3_.k)), (.string (t3_.ch)), (.bool (t3_.ng)), t3_.rv.v, (.int .i64 (t3_.mn)), (.int .i64 (t3_.mx)), (.bool (t3_.lz)), t3_.kv.v] (τ23 4) b23x9 w23 := f23.rb 3 e9 rfl
 replace r6 := f23.iz 6 rfl
 clear f23
 have hA : (fitsF t2_ 512 16).2 = true := by rw [may_law, ← mayF_er, hqt2_]; exact (alt_law hx).1
 have hB : (fitsF t3_ 512 16).2 = true := by rw [may_law, ← mayF_er, hqt3_, hk_]; exact (seq_law hx.plain.1 hx.plain.2).1
 have hM : partsF t3_ = mF0 (plainL (ts1_.take k)) ∨ partsF t3_ = mF0 (plainL (ts1_.take k)) - 1 := by
   have h_ := (seq_law hx.plain.1 hx.plain.2).2
   rw [parts_map, cnt_map] at h_
   have e_ : partsF t3_ = partsF (seqF ((plainL ts1_).map er)) := by rw [← partsF_er t3_, hqt3_, hk_]
   unfold mF0
   rw [hk_]; omega
 have hN : t2_.k = 1 → partsF t2_ = nF (ts1_.take k) := fun h1_ => by
   have h_ := (alt_law hx).2 (by rw [← hqt2_, er_k]; exact h1_)
   rw [parts_map, cnt_map] at h_
   have e_ : partsF t2_ = partsF (altF (ts1_.map er)) := by rw [← partsF_er t2_, hqt2_]
   unfold nF
   rw [hk_]; omega
 have hw2 := hwt2_
 have hw3 := hwt3_
 have hb2 := wtF_bound t2_
 have hb3 := wtF_bound t3_
 show Code.wp _ _ _ a23 w23
 refine wp_seq ?_
 refine wp_seq ?_
 refine region_St (bf := [0, 1, 3, 7, 15, 31, 63, 127, 255, 511, 1023, 511, 4095, 8191, 16383, 32767, 16383, 81919, 262143, 524287, 1048575]) (sp := [det _ 67 _, det _ 68 _, det _ 69 _, det _ 70 _, gdet _ 71 _ _, gdet _ 72 _ _, gdet _ 73 _ _, det _ 74 _, det _ 75 _, gdet _ 76 _ _, gdet _ 77 _ _, gdet _ 78 _ _, gdet _ 79 _ _, gdet _ 80 _ _, gdet _ 81 _ _, gdet _ 82 _ _, gdet _ 83 _ _, gdet _ 84 _ _, gdet _ 85 _ _, gdet _ 86 _ _, det _ 87 _]) [iz r0, iz r1, iz r2, ib r3, ib r4, Ini.any _, iz r6] mixed st23 (by kernel_rfl) ⟨r0, r1, r2, r3, r4, trivial, r6, trivial⟩
  ⟨Ob.d fun c => r_loadN (vs := [(.int .i64 (t2_.k)), (.string (t2_.ch)), (.bool (t2_.ng)), t2_.rv.v, (.int .i64 (t2_.mn)), (.int .i64 (t2_.mx)), (.bool (t2_.lz)), t2_.kv.v]) rfl Try.isAgg25 Try.sizeOf25 ((c.p e8).trans r3.ptr) rfl (fun _ _ hj => (c.ib 3 rfl).cell hj),
  Ob.c fun c => ⟨_, _, (e_call1 rfl rfl Try.call20 (c.n 0 rfl)), may_c t2_ _ (zs (c.iz 0 rfl)) (by omega)⟩,
  Ob.d fun c => r_not rfl (c.n 1 rfl),
  Ob.d fun c => r_move rfl (c.n 2 rfl),
  Ob.g 3 false rfl fun c hpc => r_loadN (vs := [(.int .i64 (t3_.k)), (.string (t3_.ch)), (.bool (t3_.ng)), t3_.rv.v, (.int .i64 (t3_.mn)), (.int .i64 (t3_.mx)), (.bool (t3_.lz)), t3_.kv.v]) rfl Try.isAgg25 Try.sizeOf25 ((c.p e9).trans r4.ptr) rfl (fun _ _ hj => (c.ib 4 rfl).cell hj),
  Ob.gc 3 false rfl fun c hpc => ⟨_, _, (e_call1 rfl rfl Try.call20 (c.m 4 rfl hpc)), may_c t3_ _ (zs (c.iz 2 rfl)) (by have hq0 := hpc; (try simp only [Bool.not_eq_true', Bool.not_eq_false'] at hq0); omega)⟩,
  Ob.g 3 false rfl fun c hpc => r_not rfl (c.m 5 rfl hpc),
  Ob.d fun c => r_or rfl (c.n 3 rfl) (fun h => c.m 6 rfl h),
  Ob.d fun c => r_move rfl (c.n 7 rfl),
  Ob.g 8 false rfl fun c hpc => r_loadN (vs := [(.int .i64 (t3_.k)), (.string (t3_.ch)), (.bool (t3_.ng)), t3_.rv.v, (.int .i64 (t3_.mn)), (.int .i64 (t3_.mx)), (.bool (t3_.lz)), t3_.kv.v]) rfl Try.isAgg25 Try.sizeOf25 ((c.p e9).trans r4.ptr) rfl (fun _ _ hj => (c.ib 4 rfl).cell hj),
  Ob.gc 8 false rfl fun c hpc => ⟨_, _, (e_call1 rfl rfl Try.call19 (c.m 9 rfl hpc)), parts_c t3_ _ (zs (c.iz 2 rfl)) (by have hq0 := hpc; (try simp only [Bool.or_eq_true, Bool.or_eq_false_iff, Bool.not_eq_true', Bool.not_eq_false'] at hq0); omega)⟩,
  Ob.g 8 false rfl fun c hpc => r_move rfl (c.p e6),
  Ob.g 8 false rfl fun c hpc => r_neq rfl (c.m 10 rfl hpc) (c.m 11 rfl hpc),
  Ob.g 8 false rfl fun c hpc => r_move rfl (c.m 12 rfl hpc),
  Ob.gg 13 true rfl fun c hpc => r_loadN (vs := [(.int .i64 (t3_.k)), (.string (t3_.ch)), (.bool (t3_.ng)), t3_.rv.v, (.int .i64 (t3_.mn)), (.int .i64 (t3_.mx)), (.bool (t3_.lz)), t3_.kv.v]) rfl Try.isAgg25 Try.sizeOf25 ((c.p e9).trans r4.ptr) rfl (fun _ _ hj => (c.ib 4 rfl).cell hj),
  Ob.ggc 13 true rfl fun c hpc => ⟨_, _, (e_call1 rfl rfl Try.call19 (c.m 14 rfl hpc)), parts_c t3_ _ (zs (c.iz 2 rfl)) (by have hq0 := hpc.2; (try simp only [Bool.not_eq_true', Bool.not_eq_false', decide_eq_true_eq, decide_eq_false_iff_not] at hq0); have hq1 := hpc.1; (try simp only [Bool.or_eq_true, Bool.or_eq_false_iff, Bool.not_eq_true', Bool.not_eq_false'] at hq1); omega)⟩,
  Ob.gg 13 true rfl fun c hpc => r_move rfl (c.p e6),
  Ob.gg 13 true rfl fun c hpc => r_sub rfl (c.m 16 rfl hpc) rfl (by have hq0 := hpc.2; (try simp only [Bool.not_eq_true', Bool.not_eq_false', decide_eq_true_eq, decide_eq_false_iff_not] at hq0); have hq1 := hpc.1; (try simp only [Bool.or_eq_true, Bool.or_eq_false_iff, Bool.not_eq_true', Bool.not_eq_false'] at hq1); omega),
  Ob.gg 13 true rfl fun c hpc => r_neq rfl (c.m 15 rfl hpc) (c.m 17 rfl hpc),
  Ob.g 8 false rfl fun c hpc => r_and rfl (c.m 13 rfl hpc) (fun h => c.m 18 rfl (And.intro hpc h)),
  Ob.d fun c => r_or rfl (c.n 8 rfl) (fun h => c.m 19 rfl h), trivial⟩ ?_
 intro a24 w24 τ24 st24 f24
 obtain ⟨e2, e5, e8, -⟩ := f24.ks [(2, _), (5, _), (8, _)] ⟨e2, e5, e8, trivial⟩
 have e87 : get a24 87 = (.bool (((!((fitsF t2_ 512 16).2)) || (!((fitsF t3_ 512 16).2))) || ((!decide (partsF t3_ = mF0 (plainL (ts1_.take k)))) && (!decide (partsF t3_ = mF0 (plainL (ts1_.take k)) - 1))))) := f24.v 20 rfl
 replace r0 := f24.iz 0 rfl
 replace r1 := f24.iz 1 rfl
 replace r2 := f24.iz 2 rfl
 replace r3 := f24.ib 3 rfl
 replace r6 := f24.iz 6 rfl
 clear f24
 show Code.wp _ _ _ a24 w24
 refine wp_cond_split (t := ((!((fitsF t2_ 512 16).2)) || (!((fitsF t3_ 512 16).2))) || ((!decide (partsF t3_ = mF0 (plainL (ts1_.take k)))) && (!decide (partsF t3_ = mF0 (plainL (ts1_.take k)) - 1)))) e87 (fun hc5 => ?_) (fun hc5 => ?_)
 · have hd5 := hc5; try simp only [Bool.and_eq_true, Bool.and_eq_false_iff, Bool.or_eq_true, Bool.or_eq_false_iff, Bool.not_eq_true', Bool.not_eq_false', decide_eq_true_eq, decide_eq_false_iff_not] at hd5
   refine wp_seq ?_
   refine region_St (bf := [0]) (sp := [det _ 2 _]) [iz r0, iz r1, iz r2, ib r3, Ini.any _, Ini.any _, iz r6] mixed st24 (by kernel_rfl) ⟨r0, r1, r2, r3, trivial, trivial, r6, trivial⟩
    ⟨Ob.d fun c => r_assign rfl rfl, trivial⟩ ?_
   intro a25 w25 τ25 st25 f25
   obtain ⟨e5, e8, -⟩ := f25.ks [(5, _), (8, _)] ⟨e5, e8, trivial⟩
   have e2 : get a25 2 = (.bool (false)) := f25.v 0 rfl
   replace r0 := f25.iz 0 rfl
   replace r1 := f25.iz 1 rfl
   replace r2 := f25.iz 2 rfl
   replace r3 := f25.ib 3 rfl
   replace r6 := f25.iz 6 rfl
   clear f25
   show Code.wp _ _ _ a25 w25
   refine wp_ret ?_
   repeat (first | with_reducible refine then_ret ?_ | with_reducible refine block_ret ?_)
   refine ret1 (fn := Try.f5) rfl st25.defers e2 ?_
   exfalso
   first | (rw [hA, hB] at hc5; simp at hc5; omega) | (simp at hc5; exact hc5.2 (hN hc5.1))
 have hd5 := hc5; try simp only [Bool.and_eq_true, Bool.and_eq_false_iff, Bool.or_eq_true, Bool.or_eq_false_iff, Bool.not_eq_true', Bool.not_eq_false', decide_eq_true_eq, decide_eq_false_iff_not] at hd5
 refine wp_skip ?_
 show Code.wp _ _ _ a24 w24
 refine wp_seq ?_
 refine wp_seq ?_
 refine region_St (bf := [0, 1, 3, 7, 15, 31, 15, 127, 255]) (sp := [det _ 88 _, det _ 89 _, det _ 90 _, det _ 91 _, gdet _ 92 _ _, gdet _ 93 _ _, gdet _ 94 _ _, gdet _ 95 _ _, det _ 96 _]) [iz r0, iz r1, iz r2, ib r3, Ini.any _, Ini.any _, iz r6] mixed st24 (by kernel_rfl) ⟨r0, r1, r2, r3, trivial, trivial, r6, trivial⟩
  ⟨Ob.d fun c => r_fieldAddr rfl Try.underlying25 rfl rfl Try.sizeOf3 ((c.p e8).trans r3.ptr),
  Ob.d fun c => r_load1 rfl Try.isAgg3 (c.n 0 rfl) ((c.ib 3 rfl).cell (j := 0) rfl),
  Ob.d fun c => r_eql rfl (c.n 1 rfl) rfl,
  Ob.d fun c => r_move rfl (c.n 2 rfl),
  Ob.g 3 true rfl fun c hpc => r_loadN (vs := [(.int .i64 (t2_.k)), (.string (t2_.ch)), (.bool (t2_.ng)), t2_.rv.v, (.int .i64 (t2_.mn)), (.int .i64 (t2_.mx)), (.bool (t2_.lz)), t2_.kv.v]) rfl Try.isAgg25 Try.sizeOf25 ((c.p e8).trans r3.ptr) rfl (fun _ _ hj => (c.ib 3 rfl).cell hj),
  Ob.gc 3 true rfl fun c hpc => ⟨_, _, (e_call1 rfl rfl Try.call19 (c.m 4 rfl hpc)), parts_c t2_ _ (zs (c.iz 0 rfl)) (by have hq0 := bt hpc; omega)⟩,
  Ob.g 3 true rfl fun c hpc => r_move rfl (c.p e5),
  Ob.g 3 true rfl fun c hpc => r_neq rfl (c.m 5 rfl hpc) (c.m 6 rfl hpc),
  Ob.d fun c => r_and rfl (c.n 3 rfl) (fun h => c.m 7 rfl h), trivial⟩ ?_
 intro a26 w26 τ26 st26 f26
 obtain ⟨e2, -⟩ := f26.ks [(2, _)] ⟨e2, trivial⟩
 have e96 : get a26 96 = (.bool ((decide (t2_.k = 1)) && (!decide (partsF t2_ = nF (ts1_.take k))))) := f26.v 8 rfl
 replace r0 := f26.iz 0 rfl
 replace r1 := f26.iz 1 rfl
 replace r2 := f26.iz 2 rfl
 replace r6 := f26.iz 6 rfl
 clear f26
 show Code.wp _ _ _ a26 w26
 refine wp_cond_split (t := (decide (t2_.k = 1)) && (!decide (partsF t2_ = nF (ts1_.take k)))) e96 (fun hc6 => ?_) (fun hc6 => ?_)
 · have hd6 := hc6; try simp only [Bool.and_eq_true, Bool.and_eq_false_iff, Bool.not_eq_true', Bool.not_eq_false', decide_eq_true_eq, decide_eq_false_iff_not] at hd6
   refine wp_seq ?_
   refine region_St (bf := [0]) (sp := [det _ 2 _]) [iz r0, iz r1, iz r2, Ini.any _, Ini.any _, Ini.any _, iz r6] mixed st26 (by kernel_rfl) ⟨r0, r1, r2, trivial, trivial, trivial, r6, trivial⟩
    ⟨Ob.d fun c => r_assign rfl rfl, trivial⟩ ?_
   intro a27 w27 τ27 st27 f27
   have e2 : get a27 2 = (.bool (false)) := f27.v 0 rfl
   replace r0 := f27.iz 0 rfl
   replace r1 := f27.iz 1 rfl
   replace r2 := f27.iz 2 rfl
   replace r6 := f27.iz 6 rfl
   clear f27
   show Code.wp _ _ _ a27 w27
   refine wp_ret ?_
   repeat (first | with_reducible refine then_ret ?_ | with_reducible refine block_ret ?_)
   refine ret1 (fn := Try.f5) rfl st27.defers e2 ?_
   exfalso
   first | (rw [hA, hB] at hc6; simp at hc6; omega) | (simp at hc6; exact hc6.2 (hN hc6.1))
 have hd6 := hc6; try simp only [Bool.and_eq_true, Bool.and_eq_false_iff, Bool.not_eq_true', Bool.not_eq_false', decide_eq_true_eq, decide_eq_false_iff_not] at hd6
 refine wp_skip ?_
 show Code.wp _ _ _ a26 w26
 refine wp_seq ?_
 refine region_St (bf := [0, 1]) (sp := [det _ 97 _, det _ 2 _]) [iz r0, iz r1, iz r2, Ini.any _, Ini.any _, Ini.any _, iz r6] mixed st26 (by kernel_rfl) ⟨r0, r1, r2, trivial, trivial, trivial, r6, trivial⟩
  ⟨Ob.c fun c => ⟨_, _, (e_call0 rfl rfl Try.call10), awake_c _⟩,
  Ob.d fun c => r_assign rfl (c.n 0 rfl), trivial⟩ ?_
 intro a28 w28 τ28 st28 f28
 have e2 : get a28 2 = (.bool (true)) := f28.v 1 rfl
 replace r0 := f28.iz 0 rfl
 replace r1 := f28.iz 1 rfl
 replace r2 := f28.iz 2 rfl
 replace r6 := f28.iz 6 rfl
 clear f28
 show Code.wp _ _ _ a28 w28
 refine wp_ret ?_
 repeat (first | with_reducible refine then_ret ?_ | with_reducible refine block_ret ?_)
 refine ret1 (fn := Try.f5) rfl st28.defers e2 ?_
 exact ⟨rfl, st28.ext0⟩
end B
end Go.Proofs.Ytocmchlhbniloaa
namespace Go.Proofs.Ytocmchlhbniloaa
open Go.ChangeShapes Go.WideShapes Go.ChangeAt Go.RowKit
namespace B
theorem ownK : ownKnob Try.prog.godebug = none := by kernel_rfl
theorem laidOut : laidOutB Try.prog = true := by kernel_rfl
theorem reads9 : Reads Try.prog 9 StrE := reads_str Try.underlying9
theorem seqMay_contract (H : Type) (enc : TypeId × Value → H) (W : World) (base : Nat) (args : Array Value) (ds gs : List (DataW H)) (before : List MemPlace)
    (hval : ∀ (j : Nat) t v, Try.f5.params[j]? = some t → args[j]? = some v → Value.okWide Try.prog W .any base t v)
    (hW : DataW.Whole enc Try.prog Try.f5.params.toList Rows.seqMaySpec.vars false W args.toList ds gs before) :
    Calls Try.prog 5 args W fun e W' => ∃ v, e = .returned v ∧ Rows.seqMaySpec.post enc Try.prog Try.f5 false true false false W args v W' := by
  have hW' := hW
  obtain ⟨p, q, hA0, hV, rfl, hfz, hnd⟩ := hW
  have hA : DataW.TrodAll enc Try.prog W 0 (fun _ => true) true Try.f5.params.toList args.toList ds p := hA0
  rw [Try.params5] at hA hval
  obtain ⟨v0, vs0, d0, ds0, p0, q0, hargs0, rfl, rfl, h0, r0⟩ := trodAll_cons hA
  obtain ⟨rfl, rfl, rfl⟩ := trodAll_nil r0
  obtain rfl : args = #[v0] := by cases args; simp_all
  obtain ⟨x0, s0⟩ := open_sl (E := StrE) Try.underlying32 (by kernel_rfl) reads9 (hval 0 32 v0 rfl rfl) h0
  exact (seqMay_c v0 x0 W s0).mono fun e W' ⟨he, hx⟩ => ⟨_, he, post_true laidOut hW' rfl (by kernel_rfl) rfl rfl Try.underlying4 hx⟩
set_option maxRecDepth 100000 in
theorem seqMay_lifted (os : Os) (started : os.Started) (H : Type) (enc : TypeId × Value → H) :
    ReturnsInHanded {} Try.checked os 5 .any (Rows.seqMaySpec.pre6 enc Try.prog Try.f5 Rows.seqMayRow.domain false) (Rows.seqMaySpec.post enc Try.prog Try.f5 false true false false) := by
  refine returnsInHanded_of_change (C := Try.checked) ownK started (by kernel_rfl) Try.func5
    (ChangeSpec.witness6 (enc := enc) (C := Try.checked) false ⟨#[], #[.slice none 0 0], []⟩ 8 (by kernel_rfl) (by kernel_rfl) (by kernel_rfl) (by kernel_rfl)) ?_
  intro W base args ds gs before hval hW _ _
  exact seqMay_contract H enc W base args ds gs before hval hW
theorem seqMay_holds : Rows.SeqMaySaid :=
  OpenClaim.holds_of_wide 5 Try.f5 rfl rfl rfl rfl rfl rfl rfl ⟨rfl, rfl, rfl, rfl, rfl⟩ rfl rfl rfl rfl rfl (by kernel_rfl) Try.func5 (by kernel_rfl)
    (of_decide_eq_true (by kernel_rfl)) (by unfold Func.isWrapper; first | (rw [if_pos (by decide +kernel)]; kernel_rfl) | (rw [if_neg (by decide +kernel)]; exact ⟨rfl, rfl⟩))
    (fun os started H enc _ => seqMay_lifted os started H enc)
end B
end Go.Proofs.Ytocmchlhbniloaa
