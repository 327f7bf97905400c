/-
  Walks, printed by a program (gen.py): TrY.
-/
import Derived.Test.YtocmchlhbniloaaTrX
set_option linter.unusedSimpArgs false
set_option linter.unusedVariables false
namespace Go.Proofs.Ytocmchlhbniloaa
namespace B
open Go.RowKit
open Srt
theorem low5 (x : Int) : 0 ≤ lowF x 5 ∧ lowF x 5 < 5 := by
  have h : IntKind.u64.wrap 5 = 5 := by simp [IntKind.wrap, IntKind.signed, IntKind.bits]
  have h0 : 0 ≤ IntKind.u64.wrap x := by simp [IntKind.wrap, IntKind.signed, IntKind.bits]; omega
  unfold lowF
  rw [h]
  have h1 := Int.tmod_nonneg 5 h0
  have h2 := Int.tmod_lt_of_pos (IntKind.u64.wrap x) (show (0 : Int) < 5 by decide)
  rw [IntWalk.i64_in _ (by omega)]
  exact ⟨h1, h2⟩
def grpOk (tr : Tr) (i : Nat) : Prop := deepF tr = (i : Int) ∧ partsF tr = (i : Int) + 1 ∧ allF tr = true ∧ wtF tr = (i : Int) + 2
theorem grpOk0 : grpOk (leafT 2 ⟨#[97]⟩ false 0 0 false) 0 := ⟨by kernel_rfl, by kernel_rfl, by kernel_rfl, by kernel_rfl⟩
theorem grpOk1 {tr : Tr} {i : Nat} {k : Int} {kv : Sv} (h : grpOk tr i) (hk : k = 5 ∨ k = 6) : grpOk (nodeT k ⟨#[]⟩ false 0 0 false kv [tr]) (i + 1) := by
  obtain ⟨h1, h2, h3, h4⟩ := h
  refine ⟨?_, ?_, ?_, ?_⟩
  · rw [deepF_eq]
    have : grpB (nodeT k ⟨#[]⟩ false 0 0 false kv [tr]) = true := by unfold grpB nodeT; rcases hk with rfl | rfl <;> rfl
    rw [if_pos this]
    simp [nodeT, maxL, h1] <;> omega
  · rw [partsF_eq]; simp [nodeT, sumL, h2]; omega
  · rw [allF_eq]
    have : fieldsF (nodeT k ⟨#[]⟩ false 0 0 false kv [tr]) = true := by
      rcases hk with rfl | rfl <;> simp [fieldsF, nodeT, bareT, bareF, eqT]
    rw [this]; simp [nodeT, h3]
  · rw [wt_node]; simp [sumL, h4]; have : ((⟨#[]⟩ : ByteArray).size : Int) = 0 := rfl
    omega
theorem grp_may {tr : Tr} {i : Nat} (h : grpOk tr i) (hi : i ≤ 100) : (fitsF tr 512 16).2 = decide ((i : Int) ≤ 16) := by
  obtain ⟨h1, h2, h3, h4⟩ := h
  rw [may_law]; unfold mayF
  rw [h1, h2, h3, Bool.eq_iff_iff]; simp; omega
def manyT (kv : Sv) (j : Nat) : Tr := nodeT 0 ⟨#[]⟩ false 0 0 false kv (List.replicate j (leafT 2 ⟨#[98]⟩ false 0 0 false))
theorem rep_sum {f : Tr → Int} (x : Tr) (j : Nat) : sumL ((List.replicate j x).map f) = (j : Int) * f x := by
  induction j with
  | zero => simp [sumL]
  | succ j ih => rw [List.replicate_succ, List.map_cons, sumL_cons, ih]; rw [show ((j + 1 : Nat) : Int) = (j : Int) + 1 by omega, Int.add_mul]; omega
theorem many_parts (kv : Sv) (j : Nat) : partsF (manyT kv j) = (j : Int) + 1 := by
  rw [partsF_eq]; unfold manyT nodeT
  simp only []
  rw [rep_sum, show partsF (leafT 2 ⟨#[98]⟩ false 0 0 false) = 1 by kernel_rfl]; omega
theorem many_may (kv : Sv) (j : Nat) (hj : 2 ≤ j) : (fitsF (manyT kv j) 512 16).2 = decide ((j : Int) + 1 ≤ 512) := by
  rw [may_law]; unfold mayF
  rw [many_parts]
  have h1 : deepF (manyT kv j) = 0 := by
    rw [deepF_eq]
    have : grpB (manyT kv j) = false := rfl
    rw [this]
    have h2 : maxL ((manyT kv j).kids.map deepF) ≤ 0 := maxL_le (Int.le_refl _) fun x hx => by
      obtain ⟨k, hk, rfl⟩ := List.mem_map.1 hx
      rw [List.eq_of_mem_replicate hk]
      exact Int.le_of_eq (show deepF (leafT 2 ⟨#[98]⟩ false 0 0 false) = 0 by kernel_rfl)
    have h3 := maxL_pos ((manyT kv j).kids.map deepF)
    simp; omega
  have h2 : allF (manyT kv j) = true := by
    rw [allF_eq]
    have h3 : (manyT kv j).kids.all allF = true := by
      rw [List.all_eq_true]
      intro x hx
      rw [List.eq_of_mem_replicate hx]; kernel_rfl
    have h4 : fieldsF (manyT kv j) = true := by
      have h5 : someK (manyT kv j) [0, 1] = false := by
        unfold someK
        rw [List.any_eq_false]
        intro x hx
        rw [List.eq_of_mem_replicate hx]; decide
      have h6 : (manyT kv j).kids.length = j := by simp [manyT, nodeT]
      unfold fieldsF
      rw [show (manyT kv j).k = 0 from rfl, if_neg (by decide), if_neg (by decide), if_neg (by decide), if_pos rfl, h5, h6]
      simp [bareT, bareF, manyT, nodeT, eqT]; omega
    rw [h3, h4]; rfl
  rw [h1, h2]; simp

set_option maxRecDepth 100000 in
set_option maxHeartbeats 4000000 in
theorem treeLimits_c (x : Int) (b : Bool) (y : Int) (w : World) : Calls Try.prog 6 #[(.int .i64 (x)), (.bool (b)), (.int .i64 (y))] w (fun e w' => e = .returned (.bool (true)) ∧ Ext none' w w') := by
 refine enter (n := 78) Try.func6 rfl rfl (Nat.le_of_ble_eq_true rfl) ?_
 intro a0 τ0 ha st0
 have e0 : get a0 0 = (.int .i64 (x)) := ha 0 _ rfl
 have e1 : get a0 1 = (.bool (b)) := ha 1 _ rfl
 have e2 : get a0 2 = (.int .i64 (y)) := ha 2 _ rfl
 clear ha
 have hx5 := low5 x
 have hy5 := low5 y
 refine wp_seq ?_
 refine region_St (bf := [0]) (sp := [det _ 6 _]) [] mixed st0 (by kernel_rfl) trivial
  ⟨Ob.d fun c => r_assign rfl rfl, trivial⟩ ?_
 intro a1 w1 τ1 st1 f1
 obtain ⟨e0, e1, e2, -⟩ := f1.ks [(0, _), (1, _), (2, _)] ⟨e0, e1, e2, trivial⟩
 have e6 : get a1 6 = (.bool (false)) := f1.v 0 rfl
 clear f1
 show Code.wp _ _ _ a1 w1
 refine wp_seq ?_
 refine region_St (bf := [0, 1, 3, 7]) (sp := [det _ 14 _, det _ 15 _, det _ 16 _, det _ 7 _]) [] mixed st1 (by kernel_rfl) trivial
  ⟨Ob.d fun c => r_move rfl (c.p e0),
  Ob.c fun c => ⟨_, _, (e_call2 rfl rfl Try.call21 (c.n 0 rfl) rfl), low_c x 5 _ (by first | omega | (have h_ := low5 x; have h2_ := low5 y; omega)) (by first | omega | (have h_ := low5 x; have h2_ := low5 y; omega))⟩,
  Ob.d fun c => r_add rfl rfl (c.n 1 rfl) (by first | omega | (have h_ := low5 x; have h2_ := low5 y; omega)),
  Ob.d fun c => r_assign rfl (c.n 2 rfl), trivial⟩ ?_
 intro a2 w2 τ2 st2 f2
 obtain ⟨e1, e2, e6, -⟩ := f2.ks [(1, _), (2, _), (6, _)] ⟨e1, e2, e6, trivial⟩
 have e7 : get a2 7 = (.int .i64 (14 + (lowF x 5))) := f2.v 3 rfl
 clear f2
 show Code.wp _ _ _ a2 w2
 refine wp_seq ?_
 refine region_St (bf := [0, 0, 3]) (sp := [det _ 17 _, box _ _ 0 8 [(.int .i64 (0)), (.string ((⟨#[]⟩ : ByteArray))), (.bool (false)), (.slice none 0 0), (.int .i64 (0)), (.int .i64 (0)), (.bool (false)), (.slice none 0 0)], box _ _ 0 8 [(.int .i64 ((leafT 2 (⟨#[97]⟩ : ByteArray) false 0 0 false).k)), (.string ((leafT 2 (⟨#[97]⟩ : ByteArray) false 0 0 false).ch)), (.bool ((leafT 2 (⟨#[97]⟩ : ByteArray) false 0 0 false).ng)), (leafT 2 (⟨#[97]⟩ : ByteArray) false 0 0 false).rv.v, (.int .i64 ((leafT 2 (⟨#[97]⟩ : ByteArray) false 0 0 false).mn)), (.int .i64 ((leafT 2 (⟨#[97]⟩ : ByteArray) false 0 0 false).mx)), (.bool ((leafT 2 (⟨#[97]⟩ : ByteArray) false 0 0 false).lz)), (leafT 2 (⟨#[97]⟩ : ByteArray) false 0 0 false).kv.v]]) [] mixed st2 (by kernel_rfl) trivial
  ⟨Ob.c fun c => ⟨_, _, (e_call1 rfl rfl Try.call22 rfl), char_c (⟨#[97]⟩ : ByteArray) _⟩,
  Ob.alloc rfl rfl rfl rfl Try.zeroValue25 rfl,
  Ob.storeBox (off := 0) (v := (.agg #[(.int .i64 ((leafT 2 (⟨#[97]⟩ : ByteArray) false 0 0 false).k)), (.string ((leafT 2 (⟨#[97]⟩ : ByteArray) false 0 0 false).ch)), (.bool ((leafT 2 (⟨#[97]⟩ : ByteArray) false 0 0 false).ng)), (leafT 2 (⟨#[97]⟩ : ByteArray) false 0 0 false).rv.v, (.int .i64 ((leafT 2 (⟨#[97]⟩ : ByteArray) false 0 0 false).mn)), (.int .i64 ((leafT 2 (⟨#[97]⟩ : ByteArray) false 0 0 false).mx)), (.bool ((leafT 2 (⟨#[97]⟩ : ByteArray) false 0 0 false).lz)), (leafT 2 (⟨#[97]⟩ : ByteArray) false 0 0 false).kv.v])) rfl rfl rfl rfl Try.sizeOf25 (Nat.le_of_ble_eq_true rfl) (by simp [Value.cells, Value.oneCell', Sv.v]) rfl (fun _ _ _ _ c => ⟨c.rb 1 rfl, (c.rb 1 rfl).ptr, (c.n 0 rfl)⟩), trivial⟩ ?_
 intro a3 w3 τ3 st3 f3
 obtain ⟨b3x8, e8⟩ : ∃ b, get a3 8 = b := ⟨_, rfl⟩
 obtain ⟨e1, e2, e6, e7, -⟩ := f3.ks [(1, _), (2, _), (6, _), (7, _)] ⟨e1, e2, e6, e7, trivial⟩
 have r0 : boxR 25 [(.int .i64 ((leafT 2 (⟨#[97]⟩ : ByteArray) false 0 0 false).k)), (.string ((leafT 2 (⟨#[97]⟩ : ByteArray) false 0 0 false).ch)), (.bool ((leafT 2 (⟨#[97]⟩ : ByteArray) false 0 0 false).ng)), (leafT 2 (⟨#[97]⟩ : ByteArray) false 0 0 false).rv.v, (.int .i64 ((leafT 2 (⟨#[97]⟩ : ByteArray) false 0 0 false).mn)), (.int .i64 ((leafT 2 (⟨#[97]⟩ : ByteArray) false 0 0 false).mx)), (.bool ((leafT 2 (⟨#[97]⟩ : ByteArray) false 0 0 false).lz)), (leafT 2 (⟨#[97]⟩ : ByteArray) false 0 0 false).kv.v] (τ3 0) b3x8 w3 := f3.rb 2 e8 rfl
 clear f3
 show Code.wp _ _ _ a3 w3
 refine wp_seq ?_
 refine wp_seq ?_
 refine region_St (bf := [0]) (sp := [det _ 9 _]) [ib r0] mixed st3 (by kernel_rfl) ⟨r0, trivial⟩
  ⟨Ob.d fun c => r_assign rfl rfl, trivial⟩ ?_
 intro a4 w4 τ4 st4 f4
 obtain ⟨e1, e2, e6, e7, e8, -⟩ := f4.ks [(1, _), (2, _), (6, _), (7, _), (8, _)] ⟨e1, e2, e6, e7, e8, trivial⟩
 have e9 : get a4 9 = (.int .i64 (0)) := f4.v 0 rfl
 replace r0 := f4.ib 0 rfl
 clear f4
 show Code.wp _ _ _ a4 w4
 refine wp_block ?_
 refine wp_loop (fun a_ w_ => ∃ (i : Nat) (tr : Tr) (τ : Nat → Foot), (i : Int) ≤ 14 + lowF x 5 ∧
      (grpOk tr i) ∧
      St (Nw w) w 78 a_ w_ τ ∧
      get a_ 9 = (.int .i64 ((i : Int))) ∧
      get a_ 1 = (.bool (b)) ∧
      get a_ 2 = (.int .i64 (y)) ∧
      get a_ 6 = (.bool (false)) ∧
      get a_ 7 = (.int .i64 (14 + (lowF x 5))) ∧
      get a_ 8 = b3x8 ∧
      boxR 25 [(.int .i64 (tr.k)), (.string (tr.ch)), (.bool (tr.ng)), tr.rv.v, (.int .i64 (tr.mn)), (.int .i64 (tr.mx)), (.bool (tr.lz)), tr.kv.v] (τ 0) b3x8 w_ ∧
      Fz (zTr (Gn none' w) tr) τ w_) (fun a_ _ => (14 + lowF x 5 - intOf (get a_ 9)).toNat) ?_ ?_
 · refine ⟨0, leafT 2 ⟨#[97]⟩ false 0 0 false, τ4, ?_, ?_, st4, (e9.trans (int_eq (by omega))), e1, e2, e6, e7, e8, r0, ?_⟩
   · omega
   · exact grpOk0
   · exact leafZ _ _ _ _ _ _ _ _ _
 intro a5 w5 hI
 obtain ⟨i, tr, τ5, q0, q1, st5, e9, e1, e2, e6, e7, e8, r0, r6⟩ := hI
 have m9 := e9
 refine wp_seq ?_
 refine wp_seq ?_
 refine region_St (bf := [0, 0, 3]) (sp := [det _ 18 _, det _ 19 _, det _ 20 _]) [ib r0, Ini.any _, Ini.any _, Ini.any _, Ini.any _, Ini.any _, iz r6] mixed st5 (by kernel_rfl) ⟨r0, trivial, trivial, trivial, trivial, trivial, r6, trivial⟩
  ⟨Ob.d fun c => r_move rfl (c.p e9),
  Ob.d fun c => r_move rfl (c.p e7),
  Ob.d fun c => r_lss rfl (c.n 0 rfl) (c.n 1 rfl), trivial⟩ ?_
 intro a6 w6 τ6 st6 f6
 obtain ⟨e1, e2, e6, e7, e8, e9, -⟩ := f6.ks [(1, _), (2, _), (6, _), (7, _), (8, _), (9, _)] ⟨e1, e2, e6, e7, e8, e9, trivial⟩
 have e20 : get a6 20 = (.bool (decide ((i : Int) < 14 + (lowF x 5)))) := f6.v 2 rfl
 replace r0 := f6.ib 0 rfl
 replace r6 := f6.iz 6 rfl
 clear f6
 show Code.wp _ _ _ a6 w6
 refine wp_cond_split (t := decide ((i : Int) < 14 + (lowF x 5))) e20 (fun hc1 => ?_) (fun hc1 => ?_)
 · try simp only [decide_eq_true_eq] at hc1
   refine wp_skip ?_
   show Code.wp _ _ _ a6 w6
   refine wp_seq ?_
   refine wp_block ?_
   refine wp_seq ?_
   refine region_of_ops ?_
   refine ops_cut 2 (by kernel_rfl) ?_
   refine ops_St (bf := [0, 1]) (sp := [det _ 23 _, gzdet _ 24 (True) (fun b : Sv => b.v) (fun _ => True) (fun b : Sv => zSl TrE (Gn none' w) b.v [tr])]) [ib r0, Ini.any _, Ini.any _, Ini.any _, Ini.any _, Ini.any _, iz r6] st6 (by kernel_rfl) ⟨r0, trivial, trivial, trivial, trivial, trivial, r6, trivial⟩
    ⟨Ob.d fun c => r_loadN (vs := [(.int .i64 (tr.k)), (.string (tr.ch)), (.bool (tr.ng)), tr.rv.v, (.int .i64 (tr.mn)), (.int .i64 (tr.mx)), (.bool (tr.lz)), tr.kv.v]) rfl Try.isAgg25 Try.sizeOf25 ((c.p e8).trans r0.ptr) rfl (fun _ _ hj => (c.ib 0 rfl).cell hj),
    Ob.gzSl (E := TrE) (xs := [tr]) (cells := #[(.int .i64 (tr.k)), (.string (tr.ch)), (.bool (tr.ng)), tr.rv.v, (.int .i64 (tr.mn)), (.int .i64 (tr.mx)), (.bool (tr.lz)), tr.kv.v]) st6 gd0 rfl Try.underlying23 Try.sizeOf25 Try.zeroValue25 (by decide) (by decide) rfl rfl fun c hpc => fill1 (c.n 0 rfl) (by kernel_rfl), trivial⟩ ?_
   intro a7 w7 τ7 st7 f7
   obtain ⟨e1, e2, e6, e7, e8, e9, e20, -⟩ := f7.ks [(1, _), (2, _), (6, _), (7, _), (8, _), (9, _), (20, _)] ⟨e1, e2, e6, e7, e8, e9, e20, trivial⟩
   obtain ⟨kv1_, e24, -, hz7⟩ := f7.gzd 1 rfl trivial
   replace r0 := f7.ib 0 rfl
   replace r6 := f7.iz 6 rfl
   have r1 : Fz (zSl TrE (Gn none' w) kv1_.v [tr]) τ7 w7 := hz7
   clear f7
   refine only_mk ?_
   refine ops_St (bf := [0, 1, 3]) (sp := [det _ 25 _, box _ _ 2 10 [(.int .i64 (0)), (.string ((⟨#[]⟩ : ByteArray))), (.bool (false)), (.slice none 0 0), (.int .i64 (0)), (.int .i64 (0)), (.bool (false)), (.slice none 0 0)], box _ _ 2 10 [(.int .i64 (5)), (.string ((⟨#[]⟩ : ByteArray))), (.bool (false)), (.slice none 0 0), (.int .i64 (0)), (.int .i64 (0)), (.bool (false)), kv1_.v]]) [ib r0, iz r1, Ini.any _, Ini.any _, Ini.any _, Ini.any _, iz r6] st7 (by kernel_rfl) ⟨r0, r1, trivial, trivial, trivial, trivial, r6, trivial⟩
    ⟨Ob.d fun c => r_build (cells := #[(.int .i64 (5)), (.string ((⟨#[]⟩ : ByteArray))), (.bool (false)), (.slice none 0 0), (.int .i64 (0)), (.int .i64 (0)), (.bool (false)), kv1_.v]) rfl Try.underlying25 Try.zeroValue25 (pl := #[(0, 1), (1, 1), (2, 1), (3, 1), (4, 1), (5, 1), (6, 1), (7, 1)]) (fun w_ => by simp [Try.sizeOf22, Try.sizeOf23, Try.sizeOf3, Try.sizeOf4, Try.sizeOf9]) (fill2 rfl (c.p e24) rfl),
    Ob.alloc rfl rfl rfl rfl Try.zeroValue25 rfl,
    Ob.storeBox (off := 0) (v := (.agg #[(.int .i64 (5)), (.string ((⟨#[]⟩ : ByteArray))), (.bool (false)), (.slice none 0 0), (.int .i64 (0)), (.int .i64 (0)), (.bool (false)), kv1_.v])) rfl rfl rfl rfl Try.sizeOf25 (Nat.le_of_ble_eq_true rfl) (by simp [Value.cells, Value.oneCell', Sv.v]) rfl (fun _ _ _ _ c => ⟨c.rb 1 rfl, (c.rb 1 rfl).ptr, (c.n 0 rfl)⟩), trivial⟩ ?_
   intro a8 w8 τ8 st8 f8
   obtain ⟨b8x10, e10⟩ : ∃ b, get a8 10 = b := ⟨_, rfl⟩
   obtain ⟨e1, e2, e6, e7, e8, e9, e20, -⟩ := f8.ks [(1, _), (2, _), (6, _), (7, _), (8, _), (9, _), (20, _)] ⟨e1, e2, e6, e7, e8, e9, e20, trivial⟩
   replace r0 := f8.ib 0 rfl
   replace r1 := f8.iz 1 rfl
   have r2 : boxR 25 [(.int .i64 (5)), (.string ((⟨#[]⟩ : ByteArray))), (.bool (false)), (.slice none 0 0), (.int .i64 (0)), (.int .i64 (0)), (.bool (false)), kv1_.v] (τ8 2) b8x10 w8 := f8.rb 2 e10 rfl
   replace r6 := f8.iz 6 rfl
   clear f8
   show Code.wp _ _ _ a8 w8
   refine wp_seq ?_
   refine wp_seq ?_
   refine region_St (bf := [0, 1, 3, 7, 15, 31]) (sp := [det _ 26 _, det _ 27 _, gdet _ 28 _ _, gdet _ 29 _ _, gdet _ 30 _ _, det _ 31 _]) [ib r0, iz r1, ib r2, Ini.any _, Ini.any _, Ini.any _, iz r6] mixed st8 (by kernel_rfl) ⟨r0, r1, r2, trivial, trivial, trivial, r6, trivial⟩
    ⟨Ob.d fun c => r_move rfl (c.p e1),
    Ob.d fun c => r_move rfl (c.n 0 rfl),
    Ob.g 1 true rfl fun c hpc => r_move rfl (c.p e9),
    Ob.g 1 true rfl fun c hpc => r_rem rfl (c.m 2 rfl hpc) rfl (by have hq0 := hpc; first | omega | (have h_ := low5 x; have h2_ := low5 y; omega)),
    Ob.g 1 true rfl fun c hpc => r_eql rfl (c.m 3 rfl hpc) rfl,
    Ob.d fun c => r_and rfl (c.n 1 rfl) (fun h => c.m 4 rfl h), trivial⟩ ?_
   intro a9 w9 τ9 st9 f9
   obtain ⟨e1, e2, e6, e7, e8, e9, e10, e20, -⟩ := f9.ks [(1, _), (2, _), (6, _), (7, _), (8, _), (9, _), (10, _), (20, _)] ⟨e1, e2, e6, e7, e8, e9, e10, e20, trivial⟩
   have e31 : get a9 31 = (.bool (b && (decide ((i : Int).tmod 2 = 0)))) := f9.v 5 rfl
   replace r0 := f9.ib 0 rfl
   replace r1 := f9.iz 1 rfl
   replace r2 := f9.ib 2 rfl
   replace r6 := f9.iz 6 rfl
   clear f9
   show Code.wp _ _ _ a9 w9
   refine wp_cond_split (t := b && (decide ((i : Int).tmod 2 = 0))) e31 (fun hc2 => ?_) (fun hc2 => ?_)
   · try simp only [Bool.and_eq_true, decide_eq_true_eq] at hc2
     refine region_St (bf := [0, 1]) (sp := [det _ 32 _, box _ _ 2 10 [(.int .i64 (6)), (.string ((⟨#[]⟩ : ByteArray))), (.bool (false)), (.slice none 0 0), (.int .i64 (0)), (.int .i64 (0)), (.bool (false)), kv1_.v]]) [ib r0, iz r1, ib r2, Ini.any _, Ini.any _, Ini.any _, iz r6] mixed st9 (by kernel_rfl) ⟨r0, r1, r2, trivial, trivial, trivial, r6, trivial⟩
      ⟨Ob.d fun c => r_fieldAddr rfl Try.underlying25 rfl rfl Try.sizeOf3 ((c.p e10).trans r2.ptr),
      Ob.storeBox (off := 0) (v := (.int .i64 (6))) rfl rfl rfl rfl Try.sizeOf3 (Nat.le_of_ble_eq_true rfl) (by simp [Value.cells, Value.oneCell', Sv.v]) rfl (fun _ _ _ _ c => ⟨c.bp 2 rfl e10, c.ad (c.n 0 rfl) e10 rfl, rfl⟩), trivial⟩ ?_
     intro a10 w10 τ10 st10 f10
     obtain ⟨e1, e2, e6, e7, e8, e9, e10, e20, e31, -⟩ := f10.ks [(1, _), (2, _), (6, _), (7, _), (8, _), (9, _), (10, _), (20, _), (31, _)] ⟨e1, e2, e6, e7, e8, e9, e10, e20, e31, trivial⟩
     replace r0 := f10.ib 0 rfl
     replace r1 := f10.iz 1 rfl
     replace r2 : boxR 25 [(.int .i64 (6)), (.string ((⟨#[]⟩ : ByteArray))), (.bool (false)), (.slice none 0 0), (.int .i64 (0)), (.int .i64 (0)), (.bool (false)), kv1_.v] (τ10 2) b8x10 w10 := f10.rb 1 e10 rfl
     replace r6 := f10.iz 6 rfl
     clear f10
     show Code.wp _ _ _ a10 w10
     refine region_St (bf := [0, 1]) (sp := [det _ 33 _, box _ _ 0 8 [(.int .i64 (6)), (.string ((⟨#[]⟩ : ByteArray))), (.bool (false)), (.slice none 0 0), (.int .i64 (0)), (.int .i64 (0)), (.bool (false)), kv1_.v]]) [ib r0, iz r1, ib r2, Ini.any _, Ini.any _, Ini.any _, iz r6] mixed st10 (by kernel_rfl) ⟨r0, r1, r2, trivial, trivial, trivial, r6, trivial⟩
      ⟨Ob.d fun c => r_loadN (vs := [(.int .i64 (6)), (.string ((⟨#[]⟩ : ByteArray))), (.bool (false)), (.slice none 0 0), (.int .i64 (0)), (.int .i64 (0)), (.bool (false)), kv1_.v]) rfl Try.isAgg25 Try.sizeOf25 ((c.p e10).trans r2.ptr) rfl (fun _ _ hj => (c.ib 2 rfl).cell hj),
      Ob.storeBox (off := 0) (v := (.agg #[(.int .i64 (6)), (.string ((⟨#[]⟩ : ByteArray))), (.bool (false)), (.slice none 0 0), (.int .i64 (0)), (.int .i64 (0)), (.bool (false)), kv1_.v])) rfl rfl rfl rfl Try.sizeOf25 (Nat.le_of_ble_eq_true rfl) (by simp [Value.cells, Value.oneCell', Sv.v]) rfl (fun _ _ _ _ c => ⟨c.bp 0 rfl e8, c.ad ((c.p e8).trans r0.ptr) e8 rfl, (c.n 0 rfl)⟩), trivial⟩ ?_
     intro a11 w11 τ11 st11 f11
     obtain ⟨e1, e2, e6, e7, e8, e9, e10, e20, e31, -⟩ := f11.ks [(1, _), (2, _), (6, _), (7, _), (8, _), (9, _), (10, _), (20, _), (31, _)] ⟨e1, e2, e6, e7, e8, e9, e10, e20, e31, trivial⟩
     replace r0 : boxR 25 [(.int .i64 (6)), (.string ((⟨#[]⟩ : ByteArray))), (.bool (false)), (.slice none 0 0), (.int .i64 (0)), (.int .i64 (0)), (.bool (false)), kv1_.v] (τ11 0) b3x8 w11 := f11.rb 1 e8 rfl
     replace r1 := f11.iz 1 rfl
     replace r2 := f11.ib 2 rfl
     replace r6 := f11.iz 6 rfl
     clear f11
     show _
     show Code.wp _ _ _ a11 w11
     refine region_St (bf := [0, 1, 3]) (sp := [det _ 21 _, det _ 22 _, det _ 9 _]) [ib r0, iz r1, ib r2, Ini.any _, Ini.any _, Ini.any _, iz r6] mixed st11 (by kernel_rfl) ⟨r0, r1, r2, trivial, trivial, trivial, r6, trivial⟩
      ⟨Ob.d fun c => r_move rfl (c.p e9),
      Ob.d fun c => r_add rfl (c.n 0 rfl) rfl (by first | omega | (have h_ := low5 x; have h2_ := low5 y; omega)),
      Ob.d fun c => r_assign rfl (c.n 1 rfl), trivial⟩ ?_
     intro a12 w12 τ12 st12 f12
     obtain ⟨e1, e2, e6, e7, e8, e10, e20, e31, -⟩ := f12.ks [(1, _), (2, _), (6, _), (7, _), (8, _), (10, _), (20, _), (31, _)] ⟨e1, e2, e6, e7, e8, e10, e20, e31, trivial⟩
     have e9 : get a12 9 = (.int .i64 ((i : Int) + 1)) := f12.v 2 rfl
     replace r0 := f12.ib 0 rfl
     replace r1 := f12.iz 1 rfl
     replace r2 := f12.ib 2 rfl
     replace r6 := f12.iz 6 rfl
     clear f12
     refine ⟨⟨i + 1, nodeT 6 ⟨#[]⟩ false 0 0 false kv1_ [tr], τ12, ?_, ?_, st12, (e9.trans (int_eq (by omega))), e1, e2, e6, e7, e8, r0, ?_⟩, ?_⟩
     · omega
     · exact grpOk1 q1 (by omega)
     · exact nodeZ r1 (zcons r6 znil)
     · simp only [m9, e9, intOf]; omega
   try simp only [Bool.and_eq_false_iff, decide_eq_false_iff_not] at hc2
   refine wp_skip ?_
   show Code.wp _ _ _ a9 w9
   refine region_St (bf := [0, 1]) (sp := [det _ 33 _, box _ _ 0 8 [(.int .i64 (5)), (.string ((⟨#[]⟩ : ByteArray))), (.bool (false)), (.slice none 0 0), (.int .i64 (0)), (.int .i64 (0)), (.bool (false)), kv1_.v]]) [ib r0, iz r1, ib r2, Ini.any _, Ini.any _, Ini.any _, iz r6] mixed st9 (by kernel_rfl) ⟨r0, r1, r2, trivial, trivial, trivial, r6, trivial⟩
    ⟨Ob.d fun c => r_loadN (vs := [(.int .i64 (5)), (.string ((⟨#[]⟩ : ByteArray))), (.bool (false)), (.slice none 0 0), (.int .i64 (0)), (.int .i64 (0)), (.bool (false)), kv1_.v]) rfl Try.isAgg25 Try.sizeOf25 ((c.p e10).trans r2.ptr) rfl (fun _ _ hj => (c.ib 2 rfl).cell hj),
    Ob.storeBox (off := 0) (v := (.agg #[(.int .i64 (5)), (.string ((⟨#[]⟩ : ByteArray))), (.bool (false)), (.slice none 0 0), (.int .i64 (0)), (.int .i64 (0)), (.bool (false)), kv1_.v])) rfl rfl rfl rfl Try.sizeOf25 (Nat.le_of_ble_eq_true rfl) (by simp [Value.cells, Value.oneCell', Sv.v]) rfl (fun _ _ _ _ c => ⟨c.bp 0 rfl e8, c.ad ((c.p e8).trans r0.ptr) e8 rfl, (c.n 0 rfl)⟩), trivial⟩ ?_
   intro a13 w13 τ13 st13 f13
   obtain ⟨e1, e2, e6, e7, e8, e9, e10, e20, e31, -⟩ := f13.ks [(1, _), (2, _), (6, _), (7, _), (8, _), (9, _), (10, _), (20, _), (31, _)] ⟨e1, e2, e6, e7, e8, e9, e10, e20, e31, trivial⟩
   replace r0 : boxR 25 [(.int .i64 (5)), (.string ((⟨#[]⟩ : ByteArray))), (.bool (false)), (.slice none 0 0), (.int .i64 (0)), (.int .i64 (0)), (.bool (false)), kv1_.v] (τ13 0) b3x8 w13 := f13.rb 1 e8 rfl
   replace r1 := f13.iz 1 rfl
   replace r2 := f13.ib 2 rfl
   replace r6 := f13.iz 6 rfl
   clear f13
   show _
   show Code.wp _ _ _ a13 w13
   refine region_St (bf := [0, 1, 3]) (sp := [det _ 21 _, det _ 22 _, det _ 9 _]) [ib r0, iz r1, ib r2, Ini.any _, Ini.any _, Ini.any _, iz r6] mixed st13 (by kernel_rfl) ⟨r0, r1, r2, trivial, trivial, trivial, r6, trivial⟩
    ⟨Ob.d fun c => r_move rfl (c.p e9),
    Ob.d fun c => r_add rfl (c.n 0 rfl) rfl (by first | omega | (have h_ := low5 x; have h2_ := low5 y; omega)),
    Ob.d fun c => r_assign rfl (c.n 1 rfl), trivial⟩ ?_
   intro a14 w14 τ14 st14 f14
   obtain ⟨e1, e2, e6, e7, e8, e10, e20, e31, -⟩ := f14.ks [(1, _), (2, _), (6, _), (7, _), (8, _), (10, _), (20, _), (31, _)] ⟨e1, e2, e6, e7, e8, e10, e20, e31, trivial⟩
   have e9 : get a14 9 = (.int .i64 ((i : Int) + 1)) := f14.v 2 rfl
   replace r0 := f14.ib 0 rfl
   replace r1 := f14.iz 1 rfl
   replace r2 := f14.ib 2 rfl
   replace r6 := f14.iz 6 rfl
   clear f14
   refine ⟨⟨i + 1, nodeT 5 ⟨#[]⟩ false 0 0 false kv1_ [tr], τ14, ?_, ?_, st14, (e9.trans (int_eq (by omega))), e1, e2, e6, e7, e8, r0, ?_⟩, ?_⟩
   · omega
   · exact grpOk1 q1 (by omega)
   · exact nodeZ r1 (zcons r6 znil)
   · simp only [m9, e9, intOf]; omega
 try simp only [decide_eq_false_iff_not, Int.not_lt] at hc1
 refine wp_exit ?_
 repeat (with_reducible refine then_exit ?_)
 refine exit_here ?_
 show Code.wp _ _ _ a6 w6
 refine wp_seq ?_
 have hib := q0
 obtain ⟨g1, g2, g3, g4⟩ := q1
 have hgo : grpOk tr i := ⟨g1, g2, g3, g4⟩
 have hb1 := wtF_bound tr
 refine region_St (bf := [0, 1, 3, 7]) (sp := [det _ 34 _, det _ 35 _, det _ 36 _, det _ 11 _]) [ib r0, Ini.any _, Ini.any _, Ini.any _, Ini.any _, Ini.any _, iz r6] mixed st6 (by kernel_rfl) ⟨r0, trivial, trivial, trivial, trivial, trivial, r6, trivial⟩
  ⟨Ob.d fun c => r_move rfl (c.p e2),
  Ob.c fun c => ⟨_, _, (e_call2 rfl rfl Try.call21 (c.n 0 rfl) rfl), low_c y 5 _ (by first | omega | (have h_ := low5 x; have h2_ := low5 y; omega)) (by first | omega | (have h_ := low5 x; have h2_ := low5 y; omega))⟩,
  Ob.d fun c => r_add rfl rfl (c.n 1 rfl) (by first | omega | (have h_ := low5 x; have h2_ := low5 y; omega)),
  Ob.d fun c => r_assign rfl (c.n 2 rfl), trivial⟩ ?_
 intro a15 w15 τ15 st15 f15
 obtain ⟨e6, e7, e8, -⟩ := f15.ks [(6, _), (7, _), (8, _)] ⟨e6, e7, e8, trivial⟩
 have e11 : get a15 11 = (.int .i64 (509 + (lowF y 5))) := f15.v 3 rfl
 replace r0 := f15.ib 0 rfl
 replace r6 := f15.iz 6 rfl
 clear f15
 show Code.wp _ _ _ a15 w15
 refine wp_seq ?_
 refine region_St (bf := [0, 0, 3]) (sp := [det _ 37 _, box _ _ 1 12 [(.int .i64 (0)), (.string ((⟨#[]⟩ : ByteArray))), (.bool (false)), (.slice none 0 0), (.int .i64 (0)), (.int .i64 (0)), (.bool (false)), (.slice none 0 0)], box _ _ 1 12 [(.int .i64 (0)), (.string ((⟨#[]⟩ : ByteArray))), (.bool (false)), (.slice none 0 0), (.int .i64 (0)), (.int .i64 (0)), (.bool (false)), (.slice none 0 0)]]) [ib r0, Ini.any _, Ini.any _, Ini.any _, Ini.any _, Ini.any _, iz r6] mixed st15 (by kernel_rfl) ⟨r0, trivial, trivial, trivial, trivial, trivial, r6, trivial⟩
  ⟨Ob.d fun c => r_build (cells := #[(.int .i64 (0)), (.string ((⟨#[]⟩ : ByteArray))), (.bool (false)), (.slice none 0 0), (.int .i64 (0)), (.int .i64 (0)), (.bool (false)), (.slice none 0 0)]) rfl Try.underlying25 Try.zeroValue25 (pl := #[(0, 1), (1, 1), (2, 1), (3, 1), (4, 1), (5, 1), (6, 1), (7, 1)]) (fun w_ => by simp [Try.sizeOf22, Try.sizeOf23, Try.sizeOf3, Try.sizeOf4, Try.sizeOf9]) (by simp only [List.map_toArray, List.map_nil]; rfl),
  Ob.alloc rfl rfl rfl rfl Try.zeroValue25 rfl,
  Ob.storeBox (off := 0) (v := (.agg #[(.int .i64 (0)), (.string ((⟨#[]⟩ : ByteArray))), (.bool (false)), (.slice none 0 0), (.int .i64 (0)), (.int .i64 (0)), (.bool (false)), (.slice none 0 0)])) rfl rfl rfl rfl Try.sizeOf25 (Nat.le_of_ble_eq_true rfl) (by simp [Value.cells, Value.oneCell', Sv.v]) rfl (fun _ _ _ _ c => ⟨c.rb 1 rfl, (c.rb 1 rfl).ptr, (c.n 0 rfl)⟩), trivial⟩ ?_
 intro a16 w16 τ16 st16 f16
 obtain ⟨b16x12, e12⟩ : ∃ b, get a16 12 = b := ⟨_, rfl⟩
 obtain ⟨e6, e7, e8, e11, -⟩ := f16.ks [(6, _), (7, _), (8, _), (11, _)] ⟨e6, e7, e8, e11, trivial⟩
 replace r0 := f16.ib 0 rfl
 have r1 : boxR 25 [(.int .i64 (0)), (.string ((⟨#[]⟩ : ByteArray))), (.bool (false)), (.slice none 0 0), (.int .i64 (0)), (.int .i64 (0)), (.bool (false)), (.slice none 0 0)] (τ16 1) b16x12 w16 := f16.rb 2 e12 rfl
 replace r6 := f16.iz 6 rfl
 clear f16
 show Code.wp _ _ _ a16 w16
 refine wp_seq ?_
 refine wp_seq ?_
 refine region_St (bf := [0]) (sp := [det _ 13 _]) [ib r0, ib r1, Ini.any _, Ini.any _, Ini.any _, Ini.any _, iz r6] mixed st16 (by kernel_rfl) ⟨r0, r1, trivial, trivial, trivial, trivial, r6, trivial⟩
  ⟨Ob.d fun c => r_assign rfl rfl, trivial⟩ ?_
 intro a17 w17 τ17 st17 f17
 obtain ⟨e6, e7, e8, e11, e12, -⟩ := f17.ks [(6, _), (7, _), (8, _), (11, _), (12, _)] ⟨e6, e7, e8, e11, e12, trivial⟩
 have e13 : get a17 13 = (.int .i64 (0)) := f17.v 0 rfl
 replace r0 := f17.ib 0 rfl
 replace r1 := f17.ib 1 rfl
 replace r6 := f17.iz 6 rfl
 clear f17
 show Code.wp _ _ _ a17 w17
 refine wp_block ?_
 refine wp_loop (fun a_ w_ => ∃ (j : Nat) (u : Sv) (ys : List Tr) (τ : Nat → Foot), (j : Int) ≤ 509 + lowF y 5 ∧
      (ys = List.replicate j (leafT 2 ⟨#[98]⟩ false 0 0 false)) ∧
      St (Nw w) w 78 a_ w_ τ ∧
      get a_ 13 = (.int .i64 ((j : Int))) ∧
      get a_ 6 = (.bool (false)) ∧
      get a_ 7 = (.int .i64 (14 + (lowF x 5))) ∧
      get a_ 8 = b3x8 ∧
      get a_ 11 = (.int .i64 (509 + (lowF y 5))) ∧
      get a_ 12 = b16x12 ∧
      boxR 25 [(.int .i64 (0)), (.string ((⟨#[]⟩ : ByteArray))), (.bool (false)), (.slice none 0 0), (.int .i64 (0)), (.int .i64 (0)), (.bool (false)), u.v] (τ 1) b16x12 w_ ∧
      ownR TrE 25 (ys) (τ 7) u.v w_ ∧
      Fz (zTl (Gn none' w) ys) τ w_ ∧
      boxR 25 [(.int .i64 (tr.k)), (.string (tr.ch)), (.bool (tr.ng)), tr.rv.v, (.int .i64 (tr.mn)), (.int .i64 (tr.mx)), (.bool (tr.lz)), tr.kv.v] (τ 0) b3x8 w_ ∧
      Fz (zTr (Gn none' w) tr) τ w_) (fun a_ _ => (509 + lowF y 5 - intOf (get a_ 13)).toNat) ?_ ?_
 · refine ⟨0, Sv.nil, [], τ17, ?_, ?_, st17, (e13.trans (int_eq (by omega))), e6, e7, e8, e11, e12, r1, ?_, ?_, r0, r6⟩
   · omega
   · rfl
   · exact ownR.nil _ _ _ _
   · exact Fz.tn _ _ _
 intro a18 w18 hI
 obtain ⟨j, u, ys, τ18, q0, q1, st18, e13, e6, e7, e8, e11, e12, r1, r7, r8, r0, r6⟩ := hI
 have p0 := q0
 have p1 := q1
 have hyl : ys.length = j := by rw [p1, List.length_replicate]
 have m13 := e13
 refine wp_seq ?_
 refine wp_seq ?_
 refine region_St (bf := [0, 0, 3]) (sp := [det _ 38 _, det _ 39 _, det _ 40 _]) [ib r0, ib r1, Ini.any _, Ini.any _, Ini.any _, Ini.any _, iz r6, io r7, iz r8] mixed st18 (by kernel_rfl) ⟨r0, r1, trivial, trivial, trivial, trivial, r6, r7, r8, trivial⟩
  ⟨Ob.d fun c => r_move rfl (c.p e13),
  Ob.d fun c => r_move rfl (c.p e11),
  Ob.d fun c => r_lss rfl (c.n 0 rfl) (c.n 1 rfl), trivial⟩ ?_
 intro a19 w19 τ19 st19 f19
 obtain ⟨e6, e7, e8, e11, e12, e13, -⟩ := f19.ks [(6, _), (7, _), (8, _), (11, _), (12, _), (13, _)] ⟨e6, e7, e8, e11, e12, e13, trivial⟩
 have e40 : get a19 40 = (.bool (decide ((j : Int) < 509 + (lowF y 5)))) := f19.v 2 rfl
 replace r0 := f19.ib 0 rfl
 replace r1 := f19.ib 1 rfl
 replace r6 := f19.iz 6 rfl
 replace r7 := f19.io 7 rfl
 replace r8 := f19.iz 8 rfl
 clear f19
 show Code.wp _ _ _ a19 w19
 refine wp_cond_split (t := decide ((j : Int) < 509 + (lowF y 5))) e40 (fun hc3 => ?_) (fun hc3 => ?_)
 · try simp only [decide_eq_true_eq] at hc3
   refine wp_skip ?_
   show Code.wp _ _ _ a19 w19
   refine wp_seq ?_
   refine wp_block ?_
   refine region_St (bf := [0, 1, 0, 4, 15, 31, 63]) (sp := [det _ 43 _, det _ 44 _, det _ 45 _, own TrE 25 _ 2 46 ([(leafT 2 (⟨#[98]⟩ : ByteArray) false 0 0 false)]), own _ _ _ 7 47 _, det _ 48 _, vbox 25 _ 1 47 b16x12 (fun v_ => [(.int .i64 (0)), (.string ((⟨#[]⟩ : ByteArray))), (.bool (false)), (.slice none 0 0), (.int .i64 (0)), (.int .i64 (0)), (.bool (false)), v_])]) [ib r0, ib r1, Ini.any _, Ini.any _, Ini.any _, Ini.any _, iz r6, io r7, iz r8] mixed st19 (by kernel_rfl) ⟨r0, r1, trivial, trivial, trivial, trivial, r6, r7, r8, trivial⟩
    ⟨Ob.d fun c => r_fieldAddr rfl Try.underlying25 rfl rfl Try.sizeOf23 ((c.p e12).trans r1.ptr),
    Ob.d fun c => r_load1 rfl Try.isAgg23 (c.n 0 rfl) ((c.ib 1 rfl).cell (j := 7) rfl),
    Ob.c fun c => ⟨_, _, (e_call1 rfl rfl Try.call22 rfl), char_c (⟨#[98]⟩ : ByteArray) _⟩,
    Ob.buildSlice (cells := #[(.int .i64 ((leafT 2 (⟨#[98]⟩ : ByteArray) false 0 0 false).k)), (.string ((leafT 2 (⟨#[98]⟩ : ByteArray) false 0 0 false).ch)), (.bool ((leafT 2 (⟨#[98]⟩ : ByteArray) false 0 0 false).ng)), (leafT 2 (⟨#[98]⟩ : ByteArray) false 0 0 false).rv.v, (.int .i64 ((leafT 2 (⟨#[98]⟩ : ByteArray) false 0 0 false).mn)), (.int .i64 ((leafT 2 (⟨#[98]⟩ : ByteArray) false 0 0 false).mx)), (.bool ((leafT 2 (⟨#[98]⟩ : ByteArray) false 0 0 false).lz)), (leafT 2 (⟨#[98]⟩ : ByteArray) false 0 0 false).kv.v]) rfl rfl rfl rfl Try.underlying23 Try.sizeOf25 Try.zeroValue25 rfl (by decide) (by decide) (fun _ _ _ _ c => fill1 (c.n 2 rfl) (by kernel_rfl)) rfl,
    Ob.append (xs := ys) (E := TrE) (t0 := 44) rfl rfl rfl rfl Try.underlying23 (i := Try.t25) rfl rfl rfl rfl (by simp only [maxLen]; (try simp); omega) (by show _ * 104 ≤ _; (try simp); omega) (fun _ a_ w_ τ_ c => ⟨(show ownR _ _ _ (τ_ 7) (get a_ 44) w_ from by rw [show get a_ 44 = u.v from (c.n 1 rfl)]; exact c.io 7 rfl), rfl, ⟨_, rfl, (c.ro 3 rfl).1.sl⟩⟩),
    Ob.d fun c => r_fieldAddr rfl Try.underlying25 rfl rfl Try.sizeOf23 ((c.p e12).trans r1.ptr),
    Ob.storeBoxV (off := 7) (cells0 := [(.int .i64 (0)), (.string ((⟨#[]⟩ : ByteArray))), (.bool (false)), (.slice none 0 0), (.int .i64 (0)), (.int .i64 (0)), (.bool (false)), u.v]) rfl rfl rfl rfl Try.sizeOf23 (Nat.le_of_ble_eq_true rfl) (fun v_ => rfl) fun c => ⟨c.ib 1 rfl, (c.n 5 rfl), rfl, _, (c.ro 4 rfl).isSl⟩, trivial⟩ ?_
   intro a20 w20 τ20 st20 f20
   obtain ⟨b20x46, e46⟩ : ∃ b, get a20 46 = b := ⟨_, rfl⟩
   obtain ⟨b20x47, e47⟩ : ∃ b, get a20 47 = b := ⟨_, rfl⟩
   obtain ⟨e6, e7, e8, e11, e12, e13, e40, -⟩ := f20.ks [(6, _), (7, _), (8, _), (11, _), (12, _), (13, _), (40, _)] ⟨e6, e7, e8, e11, e12, e13, e40, trivial⟩
   replace r0 := f20.ib 0 rfl
   replace r1 : boxR 25 [(.int .i64 (0)), (.string ((⟨#[]⟩ : ByteArray))), (.bool (false)), (.slice none 0 0), (.int .i64 (0)), (.int .i64 (0)), (.bool (false)), b20x47] (τ20 1) b16x12 w20 := f20.vb 6 e47 rfl
   have r2 : ownR TrE 25 ([(leafT 2 (⟨#[98]⟩ : ByteArray) false 0 0 false)]) (τ20 2) b20x46 w20 := f20.ro 3 e46 rfl
   replace r6 := f20.iz 6 rfl
   replace r7 : ownR TrE 25 (ys ++ ([(leafT 2 (⟨#[98]⟩ : ByteArray) false 0 0 false)])) (τ20 7) b20x47 w20 := f20.ro 4 e47 rfl
   replace r8 := f20.iz 8 rfl
   clear f20
   obtain ⟨kq, rfl⟩ := r7.isSl.sv
   show _
   show Code.wp _ _ _ a20 w20
   refine region_St (bf := [0, 1, 3]) (sp := [det _ 41 _, det _ 42 _, det _ 13 _]) [ib r0, ib r1, io r2, Ini.any _, Ini.any _, Ini.any _, iz r6, io r7, iz r8] mixed st20 (by kernel_rfl) ⟨r0, r1, r2, trivial, trivial, trivial, r6, r7, r8, trivial⟩
    ⟨Ob.d fun c => r_move rfl (c.p e13),
    Ob.d fun c => r_add rfl (c.n 0 rfl) rfl (by first | omega | (have h_ := low5 x; have h2_ := low5 y; omega)),
    Ob.d fun c => r_assign rfl (c.n 1 rfl), trivial⟩ ?_
   intro a21 w21 τ21 st21 f21
   obtain ⟨e6, e7, e8, e11, e12, e40, -⟩ := f21.ks [(6, _), (7, _), (8, _), (11, _), (12, _), (40, _)] ⟨e6, e7, e8, e11, e12, e40, trivial⟩
   have e13 : get a21 13 = (.int .i64 ((j : Int) + 1)) := f21.v 2 rfl
   replace r0 := f21.ib 0 rfl
   replace r1 := f21.ib 1 rfl
   replace r2 := f21.io 2 rfl
   replace r6 := f21.iz 6 rfl
   replace r7 := f21.io 7 rfl
   replace r8 := f21.iz 8 rfl
   clear f21
   refine ⟨⟨j + 1, kq, ys ++ ([(leafT 2 (⟨#[98]⟩ : ByteArray) false 0 0 false)]), τ21, ?_, ?_, st21, (e13.trans (int_eq (by omega))), e6, e7, e8, e11, e12, r1, ?_, ?_, r0, r6⟩, ?_⟩
   · omega
   · rw [p1, List.replicate_succ']
   · exact r7.cast (by rfl)
   · exact Fz.snoc r8 (leafZ _ _ _ _ _ _ _ _ _)
   · simp only [m13, e13, intOf]; omega
 try simp only [decide_eq_false_iff_not, Int.not_lt] at hc3
 refine wp_exit ?_
 repeat (with_reducible refine then_exit ?_)
 refine exit_here ?_
 show Code.wp _ _ _ a19 w19
 refine wp_seq ?_
 have hmw : sumL (ys.map wtF) ≤ 2000 := by rw [p1, rep_sum, show wtF (leafT 2 ⟨#[98]⟩ false 0 0 false) = 2 by kernel_rfl]; omega
 have hnw : wtF (nodeT 0 (⟨#[]⟩ : ByteArray) false 0 0 false u ys) ≤ 3000 := by rw [wt_node]; have h_ : ((⟨#[]⟩ : ByteArray).size : Int) = 0 := rfl; omega
 have hb2 := wtF_bound (nodeT 0 (⟨#[]⟩ : ByteArray) false 0 0 false u ys)
 refine region_St (bf := [0, 1, 0, 7, 15, 31, 63, 31, 159, 511, 1023, 2047, 4095, 8191, 4095, 20479, 65535, 131071, 262143, 524287, 1048575, 524287, 2621439, 6815743, 16777215, 33554431, 67108863, 134217727, 268435455, 536870911]) (sp := [det _ 49 _, det _ 50 _, det _ 51 _, det _ 52 _, det _ 53 _, gdet _ 54 _ _, gdet _ 55 _ _, gdet _ 56 _ _, gdet _ 57 _ _, gdet _ 58 _ _, det _ 59 _, det _ 60 _, gdet _ 61 _ _, gdet _ 62 _ _, gdet _ 63 _ _, gdet _ 64 _ _, gdet _ 65 _ _, det _ 66 _, det _ 67 _, gdet _ 68 _ _, gdet _ 69 _ _, gdet _ 70 _ _, gdet _ 71 _ _, gdet _ 72 _ _, gdet _ 73 _ _, det _ 74 _, det _ 75 _, gdet _ 76 _ _, det _ 77 _, det _ 6 _]) [ib r0, ib r1, Ini.any _, Ini.any _, Ini.any _, Ini.any _, iz r6, io r7, iz r8] mixed st19 (by kernel_rfl) ⟨r0, r1, trivial, trivial, trivial, trivial, r6, r7, r8, trivial⟩
  ⟨Ob.d fun c => r_loadN (vs := [(.int .i64 (tr.k)), (.string (tr.ch)), (.bool (tr.ng)), tr.rv.v, (.int .i64 (tr.mn)), (.int .i64 (tr.mx)), (.bool (tr.lz)), tr.kv.v]) rfl Try.isAgg25 Try.sizeOf25 ((c.p e8).trans r0.ptr) rfl (fun _ _ hj => (c.ib 0 rfl).cell hj),
  Ob.c fun c => ⟨_, _, (e_call1 rfl rfl Try.call23 (c.n 0 rfl)), deep_c tr _ (zs (c.iz 6 rfl)) (by first | omega | (have h_ := low5 x; have h2_ := low5 y; omega))⟩,
  Ob.d fun c => r_move rfl (c.p e7),
  Ob.d fun c => r_eql rfl (c.n 1 rfl) (c.n 2 rfl),
  Ob.d fun c => r_move rfl (c.n 3 rfl),
  Ob.g 4 true rfl fun c hpc => r_loadN (vs := [(.int .i64 (tr.k)), (.string (tr.ch)), (.bool (tr.ng)), tr.rv.v, (.int .i64 (tr.mn)), (.int .i64 (tr.mx)), (.bool (tr.lz)), tr.kv.v]) rfl Try.isAgg25 Try.sizeOf25 ((c.p e8).trans r0.ptr) rfl (fun _ _ hj => (c.ib 0 rfl).cell hj),
  Ob.gc 4 true rfl fun c hpc => ⟨_, _, (e_call1 rfl rfl Try.call20 (c.m 5 rfl hpc)), may_c tr _ (zs (c.iz 6 rfl)) (by have hq0 := bt hpc; first | omega | (have h_ := low5 x; have h2_ := low5 y; omega))⟩,
  Ob.g 4 true rfl fun c hpc => r_move rfl (c.p e7),
  Ob.g 4 true rfl fun c hpc => r_leq rfl (c.m 7 rfl hpc) rfl,
  Ob.g 4 true rfl fun c hpc => r_beql rfl Try.underlying4 (c.m 6 rfl hpc) (c.m 8 rfl hpc),
  Ob.d fun c => r_and rfl (c.n 4 rfl) (fun h => c.m 9 rfl h),
  Ob.d fun c => r_move rfl (c.n 10 rfl),
  Ob.g 11 true rfl fun c hpc => r_loadN (vs := [(.int .i64 (0)), (.string ((⟨#[]⟩ : ByteArray))), (.bool (false)), (.slice none 0 0), (.int .i64 (0)), (.int .i64 (0)), (.bool (false)), u.v]) rfl Try.isAgg25 Try.sizeOf25 ((c.p e12).trans r1.ptr) rfl (fun _ _ hj => (c.ib 1 rfl).cell hj),
  Ob.gc 11 true rfl fun c hpc => ⟨_, _, (e_call1 rfl rfl Try.call19 (c.m 12 rfl hpc)), parts_c (nodeT 0 (⟨#[]⟩ : ByteArray) false 0 0 false u ys) _ (nodeS (zl (c.iz 8 rfl) (c.io 7 rfl).1.sl)) (by have hq0 := hpc; (try simp only [Bool.and_eq_true, Bool.and_eq_false_iff, Bool.not_eq_true', Bool.not_eq_false', beq_iff_eq, decide_eq_true_eq, decide_eq_false_iff_not, Int.not_le] at hq0); first | omega | (have h_ := low5 x; have h2_ := low5 y; omega))⟩,
  Ob.g 11 true rfl fun c hpc => r_move rfl (c.p e11),
  Ob.g 11 true rfl fun c hpc => r_add rfl (c.m 14 rfl hpc) rfl (by have hq0 := hpc; (try simp only [Bool.and_eq_true, Bool.and_eq_false_iff, Bool.not_eq_true', Bool.not_eq_false', beq_iff_eq, decide_eq_true_eq, decide_eq_false_iff_not, Int.not_le] at hq0); first | omega | (have h_ := low5 x; have h2_ := low5 y; omega)),
  Ob.g 11 true rfl fun c hpc => r_eql rfl (c.m 13 rfl hpc) (c.m 15 rfl hpc),
  Ob.d fun c => r_and rfl (c.n 11 rfl) (fun h => c.m 16 rfl h),
  Ob.d fun c => r_move rfl (c.n 17 rfl),
  Ob.g 18 true rfl fun c hpc => r_loadN (vs := [(.int .i64 (0)), (.string ((⟨#[]⟩ : ByteArray))), (.bool (false)), (.slice none 0 0), (.int .i64 (0)), (.int .i64 (0)), (.bool (false)), u.v]) rfl Try.isAgg25 Try.sizeOf25 ((c.p e12).trans r1.ptr) rfl (fun _ _ hj => (c.ib 1 rfl).cell hj),
  Ob.gc 18 true rfl fun c hpc => ⟨_, _, (e_call1 rfl rfl Try.call20 (c.m 19 rfl hpc)), may_c (nodeT 0 (⟨#[]⟩ : ByteArray) false 0 0 false u ys) _ (nodeS (zl (c.iz 8 rfl) (c.io 7 rfl).1.sl)) (by have hq0 := hpc; (try simp only [Bool.and_eq_true, Bool.and_eq_false_iff, Bool.not_eq_true', Bool.not_eq_false', beq_iff_eq, decide_eq_true_eq, decide_eq_false_iff_not, Int.not_le] at hq0); first | omega | (have h_ := low5 x; have h2_ := low5 y; omega))⟩,
  Ob.g 18 true rfl fun c hpc => r_move rfl (c.p e11),
  Ob.g 18 true rfl fun c hpc => r_add rfl (c.m 21 rfl hpc) rfl (by have hq0 := hpc; (try simp only [Bool.and_eq_true, Bool.and_eq_false_iff, Bool.not_eq_true', Bool.not_eq_false', beq_iff_eq, decide_eq_true_eq, decide_eq_false_iff_not, Int.not_le] at hq0); first | omega | (have h_ := low5 x; have h2_ := low5 y; omega)),
  Ob.g 18 true rfl fun c hpc => r_leq rfl (c.m 22 rfl hpc) rfl,
  Ob.g 18 true rfl fun c hpc => r_beql rfl Try.underlying4 (c.m 20 rfl hpc) (c.m 23 rfl hpc),
  Ob.d fun c => r_and rfl (c.n 18 rfl) (fun h => c.m 24 rfl h),
  Ob.d fun c => r_move rfl (c.n 25 rfl),
  Ob.gc 26 true rfl fun c hpc => ⟨_, _, (e_call0 rfl rfl Try.call10), awake_c _⟩,
  Ob.d fun c => r_and rfl (c.n 26 rfl) (fun h => c.m 27 rfl h),
  Ob.d fun c => r_assign rfl (c.n 28 rfl), trivial⟩ ?_
 intro a22 w22 τ22 st22 f22
 have e6 : get a22 6 = (.bool (((((decide (deepF tr = 14 + (lowF x 5))) && (((fitsF tr 512 16).2) == (decide (14 + (lowF x 5) ≤ 16)))) && (decide (partsF (nodeT 0 (⟨#[]⟩ : ByteArray) false 0 0 false u ys) = 509 + (lowF y 5) + 1))) && (((fitsF (nodeT 0 (⟨#[]⟩ : ByteArray) false 0 0 false u ys) 512 16).2) == (decide (509 + (lowF y 5) + 1 ≤ 512)))) && true)) := f22.v 29 rfl
 replace r6 := f22.iz 6 rfl
 replace r7 := f22.io 7 rfl
 replace r8 := f22.iz 8 rfl
 clear f22
 show Code.wp _ _ _ a22 w22
 refine wp_ret ?_
 repeat (first | with_reducible refine then_ret ?_ | with_reducible refine block_ret ?_)
 refine ret1 (fn := Try.f6) rfl st22.defers e6 ?_
 have hi : (i : Int) = 14 + lowF x 5 := by omega
 have hj : (j : Int) = 509 + lowF y 5 := by omega
 have e1_ : nodeT 0 (⟨#[]⟩ : ByteArray) false 0 0 false u ys = manyT u j := by unfold manyT; rw [p1]
 exact ⟨congrArg _ (congrArg _ (show (((((decide (deepF tr = 14 + (lowF x 5))) && (((fitsF tr 512 16).2) == (decide (14 + (lowF x 5) ≤ 16)))) && (decide (partsF (nodeT 0 (⟨#[]⟩ : ByteArray) false 0 0 false u ys) = 509 + (lowF y 5) + 1))) && (((fitsF (nodeT 0 (⟨#[]⟩ : ByteArray) false 0 0 false u ys) 512 16).2) == (decide (509 + (lowF y 5) + 1 ≤ 512)))) && true) = true from by rw [e1_, g1, grp_may hgo (by omega), many_parts, many_may u j (by omega), ← hi, ← hj]; simp)), st22.ext0⟩
end B
end Go.Proofs.Ytocmchlhbniloaa
