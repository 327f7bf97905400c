/-
  Walks, printed by a program (gen.py): TrQ.
-/
import Derived.Test.YtocmchlhbniloaaTrO
set_option linter.unusedSimpArgs false
set_option linter.unusedVariables false
namespace Go.Proofs.Ytocmchlhbniloaa
namespace B
open Go.RowKit
open Srt
def repBad (t : Tr) : Bool := (((!decide ((t.kids.length : Int) = 1)) || decide (t.mn < 0)) || decide (255 < t.mn)) || ((!decide (t.mx = -1)) && (decide (t.mx < t.mn) || decide (255 < t.mx)))
def repR (t : Tr) : Bool := if repBad t = true then false else bareF t.ch t.ng t.rows 0 0 false && (((((decide ((nth t.kids (0)).k = 2)) || (decide ((nth t.kids (0)).k = 3))) || (decide ((nth t.kids (0)).k = 4))) || (decide ((nth t.kids (0)).k = 5))) || (decide ((nth t.kids (0)).k = 6)))
def allF : Tr → Bool := foldF fun t l => l.all (fun b => b) && fieldsF t
theorem allF_eq (t : Tr) : allF t = (t.kids.all allF && fieldsF t) := by
  have h := foldF_eq (fun t l => l.all (fun b => b) && fieldsF t) t
  rw [List.all_map] at h
  exact h
theorem allF_no {t : Tr} {k : Nat} (h : k < t.kids.length) (hb : (!allF (nth t.kids (k : Int))) = true) : false = allF t := by
  rw [allF_eq]
  have : t.kids.all allF = false := by
    rw [List.all_eq_false]
    exact ⟨nth t.kids (k : Int), nth_memI (by omega) (by omega), by simpa using hb⟩
  rw [this]; rfl
theorem allF_here {t : Tr} {k : Nat} {b : Bool} (h : ∀ y ∈ t.kids.take k, allF y = true) (hk : t.kids.length ≤ k) (hb : b = fieldsF t) : b = allF t := by
  rw [List.take_of_length_le hk] at h
  rw [allF_eq, List.all_eq_true.2 h, hb]; rfl
theorem all_step {α : Type} [Inhabited α] {f : α → Bool} {xs : List α} {k : Nat} (h : k < xs.length) (hq : ∀ y ∈ xs.take k, f y = true) (hc : f (nth xs (k : Int)) = true) : ∀ y ∈ xs.take (k + 1), f y = true := by
  rw [take_snoc h]
  intro y hy
  rcases List.mem_append.1 hy with hy | hy
  · exact hq y hy
  · simp at hy; rw [hy]; exact hc
theorem someK_two (t : Tr) : someK t [0, 1] = t.kids.any fun y => decide (y.k = 0) || decide (y.k = 1) := by
  unfold someK; congr 1; funext y; simp
theorem someK_one (t : Tr) : someK t [1] = t.kids.any fun y => decide (y.k = 1) := by
  unfold someK; congr 1; funext y; simp
theorem any_yes {α : Type} [Inhabited α] {f : α → Bool} {xs : List α} {k : Nat} (h : k < xs.length) (hb : f (nth xs (k : Int)) = true) : xs.any f = true := List.any_eq_true.2 ⟨_, nth_memI (by omega) (by omega), hb⟩
theorem any_none {α : Type} {f : α → Bool} {xs : List α} {k : Nat} (hk : xs.length ≤ k) (h : ∀ y ∈ xs.take k, f y = false) : xs.any f = false := by
  rw [List.take_of_length_le hk] at h
  rw [List.any_eq_false]
  intro x hx; rw [h x hx]; decide
theorem f_seq_bad {t : Tr} {k : Nat} (h : t.k = 0) (hk : k < t.kids.length) (hb : (decide ((nth t.kids (k : Int)).k = 0) || decide ((nth t.kids (k : Int)).k = 1)) = true) : false = fieldsF t := by
  have := any_yes (f := fun y : Tr => decide (y.k = 0) || decide (y.k = 1)) hk hb
  unfold fieldsF
  rw [if_neg (by omega), if_neg (by omega), if_neg (by omega), if_pos h, someK_two, this]; simp
theorem f_seq_ok {t : Tr} {k : Nat} (h : t.k = 0) (hk : t.kids.length ≤ k) (hb : ∀ y ∈ t.kids.take k, (decide (y.k = 0) || decide (y.k = 1)) = false) : (bareF t.ch t.ng t.rows t.mn t.mx t.lz && (!decide ((t.kids.length : Int) = 1))) = fieldsF t := by
  unfold fieldsF
  rw [if_neg (by omega), if_neg (by omega), if_neg (by omega), if_pos h, someK_two, any_none hk hb]; simp [bareT]
theorem f_alt_bad {t : Tr} {k : Nat} (h : t.k = 1) (hk : k < t.kids.length) (hb : decide ((nth t.kids (k : Int)).k = 1) = true) : false = fieldsF t := by
  have := any_yes (f := fun y : Tr => decide (y.k = 1)) hk hb
  unfold fieldsF
  rw [if_neg (by omega), if_neg (by omega), if_neg (by omega), if_neg (by omega), if_pos h, someK_one, this]; simp
theorem f_alt_ok {t : Tr} {k : Nat} (h : t.k = 1) (hk : t.kids.length ≤ k) (hb : ∀ y ∈ t.kids.take k, decide (y.k = 1) = false) : (bareF t.ch t.ng t.rows t.mn t.mx t.lz && (decide (2 ≤ (t.kids.length : Int)))) = fieldsF t := by
  unfold fieldsF
  rw [if_neg (by omega), if_neg (by omega), if_neg (by omega), if_neg (by omega), if_pos h, someK_one, any_none hk hb]
  have : decide (2 ≤ (t.kids.length : Int)) = decide (1 < (t.kids.length : Int)) := by rw [Bool.eq_iff_iff]; simp; omega
  rw [this]; simp [bareT]
theorem f_rep {t : Tr} (h : t.k = 7) : repR t = fieldsF t := by
  unfold fieldsF
  rw [if_neg (show ¬ t.k = 2 by omega), if_neg (show ¬ t.k = 4 by omega), if_pos h]
  unfold repR repBad repB
  generalize bareF t.ch t.ng t.rows 0 0 false = b
  generalize (nth t.kids 0).k = k
  generalize (t.kids.length : Int) = l
  generalize t.mn = x
  generalize t.mx = y
  rw [Bool.eq_iff_iff]
  cases b
  · simp
  · simp only [Bool.true_and, Bool.or_eq_true, Bool.and_eq_true, decide_eq_true_eq, Bool.not_eq_true', decide_eq_false_iff_not, Bool.ite_eq_true_distrib, Bool.false_eq_true, if_false_left]
    omega

set_option maxRecDepth 100000 in
theorem refRepeat_c (t : Tr) (w : World) (hT : TrS w t) (hP : wtF t ≤ 1000000) : Calls Try.prog 44 #[(.agg #[(.int .i64 (t.k)), (.string (t.ch)), (.bool (t.ng)), t.rv.v, (.int .i64 (t.mn)), (.int .i64 (t.mx)), (.bool (t.lz)), t.kv.v])] w (fun e w' => e = .returned (.bool (repR t)) ∧ Ext none' w w') := by
 refine enter (n := 65) Try.func44 rfl rfl (Nat.le_of_ble_eq_true rfl) ?_
 intro a0 τ0 ha st0
 have e0 : get a0 0 = (.agg #[(.int .i64 (t.k)), (.string (t.ch)), (.bool (t.ng)), t.rv.v, (.int .i64 (t.mn)), (.int .i64 (t.mx)), (.bool (t.lz)), t.kv.v]) := ha 0 _ rfl
 clear ha
 have hle := hT.kids.le
 have hle2 := hT.rows.le
 have hwt := wtF_bound t
 have hsm := wt_small hP
 refine wp_seq ?_
 refine region_St (bf := [0, 0]) (sp := [box _ _ 0 1 [(.int .i64 (t.k)), (.string (t.ch)), (.bool (t.ng)), t.rv.v, (.int .i64 (t.mn)), (.int .i64 (t.mx)), (.bool (t.lz)), t.kv.v], det _ 2 _]) [] mixed st0 (by kernel_rfl) trivial
  ⟨Ob.box (v := (.agg #[(.int .i64 (t.k)), (.string (t.ch)), (.bool (t.ng)), t.rv.v, (.int .i64 (t.mn)), (.int .i64 (t.mx)), (.bool (t.lz)), t.kv.v])) rfl rfl rfl rfl rfl (fun _ _ _ _ c => (c.p e0)),
  Ob.d fun c => r_assign rfl rfl, trivial⟩ ?_
 intro a1 w1 τ1 st1 f1
 obtain ⟨b1x1, e1⟩ : ∃ b, get a1 1 = b := ⟨_, rfl⟩
 have e2 : get a1 2 = (.bool (false)) := f1.v 1 rfl
 have r0 : boxR 25 [(.int .i64 (t.k)), (.string (t.ch)), (.bool (t.ng)), t.rv.v, (.int .i64 (t.mn)), (.int .i64 (t.mx)), (.bool (t.lz)), t.kv.v] (τ1 0) b1x1 w1 := f1.rb 0 e1 rfl
 clear f1
 show Code.wp _ _ _ a1 w1
 refine wp_seq ?_
 refine wp_seq ?_
 refine region_St (bf := [0, 1, 3, 7, 15, 31, 63, 127, 255, 511, 1023, 2047, 4095, 8191, 16383, 32767, 65535, 131071, 262143, 524287, 1048575, 524287, 2621439, 8388607, 16777215, 33554431, 67108863, 134217727, 268435455, 536870911, 1073741823]) (sp := [det _ 4 _, det _ 5 _, det _ 6 _, det _ 7 _, det _ 8 _, gdet _ 9 _ _, gdet _ 10 _ _, gdet _ 11 _ _, det _ 12 _, det _ 13 _, gdet _ 14 _ _, gdet _ 15 _ _, gdet _ 16 _ _, det _ 17 _, det _ 18 _, gdet _ 19 _ _, gdet _ 20 _ _, gdet _ 21 _ _, gdet _ 22 _ _, gdet _ 23 _ _, gdet _ 24 _ _, gdet _ 25 _ _, gdet _ 26 _ _, gdet _ 27 _ _, gdet _ 28 _ _, gdet _ 29 _ _, gdet _ 30 _ _, gdet _ 31 _ _, gdet _ 32 _ _, gdet _ 33 _ _, det _ 34 _]) [ib r0] mixed st1 (by kernel_rfl) ⟨r0, trivial⟩
  ⟨Ob.d fun c => r_fieldAddr rfl Try.underlying25 rfl rfl Try.sizeOf23 ((c.p e1).trans r0.ptr),
  Ob.d fun c => r_load1 rfl Try.isAgg23 (c.n 0 rfl) ((c.ib 0 rfl).cell (j := 7) rfl),
  Ob.d fun c => r_len rfl Try.underlying23 (c.n 1 rfl) (hT.at st1.ext).tl.sl.sl,
  Ob.d fun c => r_neq rfl (c.n 2 rfl) rfl,
  Ob.d fun c => r_move rfl (c.n 3 rfl),
  Ob.g 4 false rfl fun c hpc => r_fieldAddr rfl Try.underlying25 rfl rfl Try.sizeOf3 ((c.p e1).trans r0.ptr),
  Ob.g 4 false rfl fun c hpc => r_load1 rfl Try.isAgg3 (c.m 5 rfl hpc) ((c.ib 0 rfl).cell (j := 4) rfl),
  Ob.g 4 false rfl fun c hpc => r_lss rfl (c.m 6 rfl hpc) rfl,
  Ob.d fun c => r_or rfl (c.n 4 rfl) (fun h => c.m 7 rfl h),
  Ob.d fun c => r_move rfl (c.n 8 rfl),
  Ob.g 9 false rfl fun c hpc => r_fieldAddr rfl Try.underlying25 rfl rfl Try.sizeOf3 ((c.p e1).trans r0.ptr),
  Ob.g 9 false rfl fun c hpc => r_load1 rfl Try.isAgg3 (c.m 10 rfl hpc) ((c.ib 0 rfl).cell (j := 4) rfl),
  Ob.g 9 false rfl fun c hpc => r_gtr rfl (c.m 11 rfl hpc) rfl,
  Ob.d fun c => r_or rfl (c.n 9 rfl) (fun h => c.m 12 rfl h),
  Ob.d fun c => r_move rfl (c.n 13 rfl),
  Ob.g 14 false rfl fun c hpc => r_fieldAddr rfl Try.underlying25 rfl rfl Try.sizeOf3 ((c.p e1).trans r0.ptr),
  Ob.g 14 false rfl fun c hpc => r_load1 rfl Try.isAgg3 (c.m 15 rfl hpc) ((c.ib 0 rfl).cell (j := 5) rfl),
  Ob.g 14 false rfl fun c hpc => r_neq rfl (c.m 16 rfl hpc) rfl,
  Ob.g 14 false rfl fun c hpc => r_move rfl (c.m 17 rfl hpc),
  Ob.gg 18 true rfl fun c hpc => r_fieldAddr rfl Try.underlying25 rfl rfl Try.sizeOf3 ((c.p e1).trans r0.ptr),
  Ob.gg 18 true rfl fun c hpc => r_load1 rfl Try.isAgg3 (c.m 19 rfl hpc) ((c.ib 0 rfl).cell (j := 5) rfl),
  Ob.gg 18 true rfl fun c hpc => r_fieldAddr rfl Try.underlying25 rfl rfl Try.sizeOf3 ((c.p e1).trans r0.ptr),
  Ob.gg 18 true rfl fun c hpc => r_load1 rfl Try.isAgg3 (c.m 21 rfl hpc) ((c.ib 0 rfl).cell (j := 4) rfl),
  Ob.gg 18 true rfl fun c hpc => r_lss rfl (c.m 20 rfl hpc) (c.m 22 rfl hpc),
  Ob.gg 18 true rfl fun c hpc => r_move rfl (c.m 23 rfl hpc),
  Ob.gg 24 false rfl fun c hpc => r_fieldAddr rfl Try.underlying25 rfl rfl Try.sizeOf3 ((c.p e1).trans r0.ptr),
  Ob.gg 24 false rfl fun c hpc => r_load1 rfl Try.isAgg3 (c.m 25 rfl hpc) ((c.ib 0 rfl).cell (j := 5) rfl),
  Ob.gg 24 false rfl fun c hpc => r_gtr rfl (c.m 26 rfl hpc) rfl,
  Ob.gg 18 true rfl fun c hpc => r_or rfl (c.m 24 rfl hpc) (fun h => c.m 27 rfl (And.intro hpc h)),
  Ob.g 14 false rfl fun c hpc => r_and rfl (c.m 18 rfl hpc) (fun h => c.m 28 rfl (And.intro hpc h)),
  Ob.d fun c => r_or rfl (c.n 14 rfl) (fun h => c.m 29 rfl h), trivial⟩ ?_
 intro a2 w2 τ2 st2 f2
 obtain ⟨e1, e2, -⟩ := f2.ks [(1, _), (2, _)] ⟨e1, e2, trivial⟩
 have e34 : get a2 34 = (.bool ((((!decide ((t.kids.length : Int) = 1)) || (decide (t.mn < 0))) || (decide (255 < t.mn))) || ((!decide (t.mx = (-1))) && ((decide (t.mx < t.mn)) || (decide (255 < t.mx)))))) := f2.v 30 rfl
 replace r0 := f2.ib 0 rfl
 clear f2
 show Code.wp _ _ _ a2 w2
 refine wp_cond_split (t := (((!decide ((t.kids.length : Int) = 1)) || (decide (t.mn < 0))) || (decide (255 < t.mn))) || ((!decide (t.mx = (-1))) && ((decide (t.mx < t.mn)) || (decide (255 < t.mx))))) e34 (fun hc1 => ?_) (fun hc1 => ?_)
 · have hd1 := hc1; try simp only [Bool.and_eq_true, Bool.and_eq_false_iff, Bool.or_eq_true, Bool.or_eq_false_iff, Bool.not_eq_true', Bool.not_eq_false', decide_eq_true_eq, decide_eq_false_iff_not, Int.not_lt] at hd1
   refine wp_seq ?_
   refine region_St (bf := [0]) (sp := [det _ 2 _]) [ib r0] mixed st2 (by kernel_rfl) ⟨r0, trivial⟩
    ⟨Ob.d fun c => r_assign rfl rfl, trivial⟩ ?_
   intro a3 w3 τ3 st3 f3
   obtain ⟨e1, -⟩ := f3.ks [(1, _)] ⟨e1, trivial⟩
   have e2 : get a3 2 = (.bool (false)) := f3.v 0 rfl
   replace r0 := f3.ib 0 rfl
   clear f3
   show Code.wp _ _ _ a3 w3
   refine wp_ret ?_
   repeat (first | with_reducible refine then_ret ?_ | with_reducible refine block_ret ?_)
   refine ret1 (fn := Try.f44) rfl st3.defers e2 ?_
   exact ⟨congrArg _ (congrArg _ (by unfold repR; rw [if_pos (by assumption : repBad t = true)])), st3.ext0⟩
 have hd1 := hc1; try simp only [Bool.and_eq_true, Bool.and_eq_false_iff, Bool.or_eq_true, Bool.or_eq_false_iff, Bool.not_eq_true', Bool.not_eq_false', decide_eq_true_eq, decide_eq_false_iff_not, Int.not_lt] at hd1
 refine wp_skip ?_
 show Code.wp _ _ _ a2 w2
 refine wp_seq ?_
 refine region_St (bf := [0, 1, 3, 7, 15, 31]) (sp := [det _ 35 _, det _ 36 _, det _ 37 _, det _ 38 _, det _ 39 _, det _ 3 _]) [ib r0] mixed st2 (by kernel_rfl) ⟨r0, trivial⟩
  ⟨Ob.d fun c => r_fieldAddr rfl Try.underlying25 rfl rfl Try.sizeOf23 ((c.p e1).trans r0.ptr),
  Ob.d fun c => r_load1 rfl Try.isAgg23 (c.n 0 rfl) ((c.ib 0 rfl).cell (j := 7) rfl),
  Ob.d fun c => r_indexAddr rfl Try.underlying23 Try.sizeOf25 (c.n 1 rfl) (hT.at st2.ext).tl.sl.sl rfl (by omega) (by omega),
  Ob.d fun c => r_fieldAddr rfl Try.underlying25 rfl rfl Try.sizeOf3 (c.n 2 rfl),
  Ob.d fun c => r_load1 rfl Try.isAgg3 (c.n 3 rfl) (((hT.at (st2.ext.trans c.J.ext)).tl.sl).elem (j := 0) (nth_some (i := 0) (by omega) (by omega)) rfl),
  Ob.d fun c => r_assign rfl (c.n 4 rfl), trivial⟩ ?_
 intro a4 w4 τ4 st4 f4
 obtain ⟨e1, e2, -⟩ := f4.ks [(1, _), (2, _)] ⟨e1, e2, trivial⟩
 have e3 : get a4 3 = (.int .i64 ((nth t.kids (0)).k)) := f4.v 5 rfl
 replace r0 := f4.ib 0 rfl
 clear f4
 show Code.wp _ _ _ a4 w4
 refine wp_seq ?_
 refine region_St (bf := [0, 1]) (sp := [det _ 40 _, box _ _ 0 1 [(.int .i64 (t.k)), (.string (t.ch)), (.bool (t.ng)), t.rv.v, (.int .i64 (0)), (.int .i64 (t.mx)), (.bool (t.lz)), t.kv.v]]) [ib r0] mixed st4 (by kernel_rfl) ⟨r0, trivial⟩
  ⟨Ob.d fun c => r_fieldAddr rfl Try.underlying25 rfl rfl Try.sizeOf3 ((c.p e1).trans r0.ptr),
  Ob.storeBox (off := 4) (v := (.int .i64 (0))) rfl rfl rfl rfl Try.sizeOf3 (Nat.le_of_ble_eq_true rfl) (by simp [Value.cells, Value.oneCell', Sv.v]) rfl (fun _ _ _ _ c => ⟨c.bp 0 rfl e1, c.ad (c.n 0 rfl) e1 rfl, rfl⟩), trivial⟩ ?_
 intro a5 w5 τ5 st5 f5
 obtain ⟨e1, e2, e3, -⟩ := f5.ks [(1, _), (2, _), (3, _)] ⟨e1, e2, e3, trivial⟩
 replace r0 : boxR 25 [(.int .i64 (t.k)), (.string (t.ch)), (.bool (t.ng)), t.rv.v, (.int .i64 (0)), (.int .i64 (t.mx)), (.bool (t.lz)), t.kv.v] (τ5 0) b1x1 w5 := f5.rb 1 e1 rfl
 clear f5
 show Code.wp _ _ _ a5 w5
 refine wp_seq ?_
 refine region_St (bf := [0, 1]) (sp := [det _ 41 _, box _ _ 0 1 [(.int .i64 (t.k)), (.string (t.ch)), (.bool (t.ng)), t.rv.v, (.int .i64 (0)), (.int .i64 (0)), (.bool (t.lz)), t.kv.v]]) [ib r0] mixed st5 (by kernel_rfl) ⟨r0, trivial⟩
  ⟨Ob.d fun c => r_fieldAddr rfl Try.underlying25 rfl rfl Try.sizeOf3 ((c.p e1).trans r0.ptr),
  Ob.storeBox (off := 5) (v := (.int .i64 (0))) rfl rfl rfl rfl Try.sizeOf3 (Nat.le_of_ble_eq_true rfl) (by simp [Value.cells, Value.oneCell', Sv.v]) rfl (fun _ _ _ _ c => ⟨c.bp 0 rfl e1, c.ad (c.n 0 rfl) e1 rfl, rfl⟩), trivial⟩ ?_
 intro a6 w6 τ6 st6 f6
 obtain ⟨e1, e2, e3, -⟩ := f6.ks [(1, _), (2, _), (3, _)] ⟨e1, e2, e3, trivial⟩
 replace r0 : boxR 25 [(.int .i64 (t.k)), (.string (t.ch)), (.bool (t.ng)), t.rv.v, (.int .i64 (0)), (.int .i64 (0)), (.bool (t.lz)), t.kv.v] (τ6 0) b1x1 w6 := f6.rb 1 e1 rfl
 clear f6
 show Code.wp _ _ _ a6 w6
 refine wp_seq ?_
 refine region_St (bf := [0, 1]) (sp := [det _ 42 _, box _ _ 0 1 [(.int .i64 (t.k)), (.string (t.ch)), (.bool (t.ng)), t.rv.v, (.int .i64 (0)), (.int .i64 (0)), (.bool (false)), t.kv.v]]) [ib r0] mixed st6 (by kernel_rfl) ⟨r0, trivial⟩
  ⟨Ob.d fun c => r_fieldAddr rfl Try.underlying25 rfl rfl Try.sizeOf4 ((c.p e1).trans r0.ptr),
  Ob.storeBox (off := 6) (v := (.bool (false))) rfl rfl rfl rfl Try.sizeOf4 (Nat.le_of_ble_eq_true rfl) (by simp [Value.cells, Value.oneCell', Sv.v]) rfl (fun _ _ _ _ c => ⟨c.bp 0 rfl e1, c.ad (c.n 0 rfl) e1 rfl, rfl⟩), trivial⟩ ?_
 intro a7 w7 τ7 st7 f7
 obtain ⟨e1, e2, e3, -⟩ := f7.ks [(1, _), (2, _), (3, _)] ⟨e1, e2, e3, trivial⟩
 replace r0 : boxR 25 [(.int .i64 (t.k)), (.string (t.ch)), (.bool (t.ng)), t.rv.v, (.int .i64 (0)), (.int .i64 (0)), (.bool (false)), t.kv.v] (τ7 0) b1x1 w7 := f7.rb 1 e1 rfl
 clear f7
 show Code.wp _ _ _ a7 w7
 refine wp_seq ?_
 refine region_St (bf := [0, 1, 3, 7, 15, 31, 63, 127, 255, 511, 1023, 2047, 4095, 8191, 16383, 32767, 65535, 131071, 262143, 524287, 1048575, 2097151, 4194303]) (sp := [det _ 43 _, det _ 44 _, det _ 45 _, gdet _ 46 _ _, gdet _ 47 _ _, gdet _ 48 _ _, gdet _ 49 _ _, gdet _ 50 _ _, gdet _ 51 _ _, gdet _ 52 _ _, gdet _ 53 _ _, gdet _ 54 _ _, gdet _ 55 _ _, gdet _ 56 _ _, gdet _ 57 _ _, gdet _ 58 _ _, gdet _ 59 _ _, gdet _ 60 _ _, gdet _ 61 _ _, gdet _ 62 _ _, gdet _ 63 _ _, det _ 64 _, det _ 2 _]) [ib r0] mixed st7 (by kernel_rfl) ⟨r0, trivial⟩
  ⟨Ob.d fun c => r_loadN (vs := [(.int .i64 (t.k)), (.string (t.ch)), (.bool (t.ng)), t.rv.v, (.int .i64 (0)), (.int .i64 (0)), (.bool (false)), t.kv.v]) rfl Try.isAgg25 Try.sizeOf25 ((c.p e1).trans r0.ptr) rfl (fun _ _ hj => (c.ib 0 rfl).cell hj),
  Ob.c fun c => ⟨_, _, (e_call1 rfl rfl Try.call41 (c.n 0 rfl)), refBare_c t.k t.ch t.ng t.rv.v t.rows 0 0 false t.kv.v rfl _ (hT.at (st7.ext.trans c.J.ext)).rows⟩,
  Ob.d fun c => r_move rfl (c.n 1 rfl),
  Ob.g 2 true rfl fun c hpc => r_move rfl (c.p e3),
  Ob.g 2 true rfl fun c hpc => r_eql rfl (c.m 3 rfl hpc) rfl,
  Ob.g 2 true rfl fun c hpc => r_move rfl (c.m 4 rfl hpc),
  Ob.gg 5 false rfl fun c hpc => r_move rfl (c.p e3),
  Ob.gg 5 false rfl fun c hpc => r_eql rfl (c.m 6 rfl hpc) rfl,
  Ob.g 2 true rfl fun c hpc => r_or rfl (c.m 5 rfl hpc) (fun h => c.m 7 rfl (And.intro hpc h)),
  Ob.g 2 true rfl fun c hpc => r_move rfl (c.m 8 rfl hpc),
  Ob.gg 9 false rfl fun c hpc => r_move rfl (c.p e3),
  Ob.gg 9 false rfl fun c hpc => r_eql rfl (c.m 10 rfl hpc) rfl,
  Ob.g 2 true rfl fun c hpc => r_or rfl (c.m 9 rfl hpc) (fun h => c.m 11 rfl (And.intro hpc h)),
  Ob.g 2 true rfl fun c hpc => r_move rfl (c.m 12 rfl hpc),
  Ob.gg 13 false rfl fun c hpc => r_move rfl (c.p e3),
  Ob.gg 13 false rfl fun c hpc => r_eql rfl (c.m 14 rfl hpc) rfl,
  Ob.g 2 true rfl fun c hpc => r_or rfl (c.m 13 rfl hpc) (fun h => c.m 15 rfl (And.intro hpc h)),
  Ob.g 2 true rfl fun c hpc => r_move rfl (c.m 16 rfl hpc),
  Ob.gg 17 false rfl fun c hpc => r_move rfl (c.p e3),
  Ob.gg 17 false rfl fun c hpc => r_eql rfl (c.m 18 rfl hpc) rfl,
  Ob.g 2 true rfl fun c hpc => r_or rfl (c.m 17 rfl hpc) (fun h => c.m 19 rfl (And.intro hpc h)),
  Ob.d fun c => r_and rfl (c.n 2 rfl) (fun h => c.m 20 rfl h),
  Ob.d fun c => r_assign rfl (c.n 21 rfl), trivial⟩ ?_
 intro a8 w8 τ8 st8 f8
 have e2 : get a8 2 = (.bool ((bareF t.ch t.ng t.rows 0 0 false) && (((((decide ((nth t.kids (0)).k = 2)) || (decide ((nth t.kids (0)).k = 3))) || (decide ((nth t.kids (0)).k = 4))) || (decide ((nth t.kids (0)).k = 5))) || (decide ((nth t.kids (0)).k = 6))))) := f8.v 22 rfl
 clear f8
 show Code.wp _ _ _ a8 w8
 refine wp_ret ?_
 repeat (first | with_reducible refine then_ret ?_ | with_reducible refine block_ret ?_)
 refine ret1 (fn := Try.f44) rfl st8.defers e2 ?_
 exact ⟨congrArg _ (congrArg _ (by unfold repR; rw [if_neg (show ¬ repBad t = true by rw [show repBad t = false from by assumption]; decide)])), st8.ext0⟩

set_option maxRecDepth 100000 in
theorem refAll_step (t : Tr) (ih : ∀ k ∈ t.kids, ∀ (w : World), TrS w k → wtF k ≤ 1000000 → Calls Try.prog 36 #[k.v] w (fun e w' => e = .returned (.bool (allF k)) ∧ Ext none' w w')) (w : World) (hT : TrS w t) (hP : wtF t ≤ 1000000) : Calls Try.prog 36 #[t.v] w (fun e w' => e = .returned (.bool (allF t)) ∧ Ext none' w w') := by
 refine enter (n := 131) Try.func36 rfl rfl (Nat.le_of_ble_eq_true rfl) ?_
 intro a0 τ0 ha st0
 have e0 : get a0 0 = (.agg #[(.int .i64 (t.k)), (.string (t.ch)), (.bool (t.ng)), t.rv.v, (.int .i64 (t.mn)), (.int .i64 (t.mx)), (.bool (t.lz)), t.kv.v]) := ha 0 _ rfl
 clear ha
 have hle := hT.kids.le
 have hle2 := hT.rows.le
 have hwt := wtF_bound t
 have hsm := wt_small hP
 have hpk : ∀ k : Nat, k < t.kids.length → wtF (nth t.kids (k : Int)) ≤ 1000000 := fun k h_ => by have h1_ := wtF_kid (nth_memI (xs := t.kids) (i := (k : Int)) (by omega) (by omega)); omega
 refine wp_seq ?_
 refine region_St (bf := [0, 0]) (sp := [box _ _ 0 1 [(.int .i64 (t.k)), (.string (t.ch)), (.bool (t.ng)), t.rv.v, (.int .i64 (t.mn)), (.int .i64 (t.mx)), (.bool (t.lz)), t.kv.v], det _ 2 _]) [] mixed st0 (by kernel_rfl) trivial
  ⟨Ob.box (v := (.agg #[(.int .i64 (t.k)), (.string (t.ch)), (.bool (t.ng)), t.rv.v, (.int .i64 (t.mn)), (.int .i64 (t.mx)), (.bool (t.lz)), t.kv.v])) rfl rfl rfl rfl rfl (fun _ _ _ _ c => (c.p e0)),
  Ob.d fun c => r_assign rfl rfl, trivial⟩ ?_
 intro a1 w1 τ1 st1 f1
 obtain ⟨b1x1, e1⟩ : ∃ b, get a1 1 = b := ⟨_, rfl⟩
 have e2 : get a1 2 = (.bool (false)) := f1.v 1 rfl
 have r0 : boxR 25 [(.int .i64 (t.k)), (.string (t.ch)), (.bool (t.ng)), t.rv.v, (.int .i64 (t.mn)), (.int .i64 (t.mx)), (.bool (t.lz)), t.kv.v] (τ1 0) b1x1 w1 := f1.rb 0 e1 rfl
 clear f1
 show Code.wp _ _ _ a1 w1
 refine wp_seq ?_
 refine region_St (bf := [0, 1, 3, 7]) (sp := [det _ 9 _, det _ 10 _, det _ 11 _, det _ 3 _]) [ib r0] mixed st1 (by kernel_rfl) ⟨r0, trivial⟩
  ⟨Ob.d fun c => r_fieldAddr rfl Try.underlying25 rfl rfl Try.sizeOf23 ((c.p e1).trans r0.ptr),
  Ob.d fun c => r_load1 rfl Try.isAgg23 (c.n 0 rfl) ((c.ib 0 rfl).cell (j := 7) rfl),
  Ob.d fun c => r_len rfl Try.underlying23 (c.n 1 rfl) (hT.at st1.ext).tl.sl.sl,
  Ob.d fun c => r_assign rfl (c.n 2 rfl), trivial⟩ ?_
 intro a2 w2 τ2 st2 f2
 obtain ⟨e1, e2, -⟩ := f2.ks [(1, _), (2, _)] ⟨e1, e2, trivial⟩
 have e3 : get a2 3 = (.int .i64 ((t.kids.length : Int))) := f2.v 3 rfl
 replace r0 := f2.ib 0 rfl
 clear f2
 show Code.wp _ _ _ a2 w2
 refine wp_seq ?_
 refine wp_seq ?_
 refine region_St (bf := [0]) (sp := [det _ 4 _]) [ib r0] mixed st2 (by kernel_rfl) ⟨r0, trivial⟩
  ⟨Ob.d fun c => r_assign rfl rfl, trivial⟩ ?_
 intro a3 w3 τ3 st3 f3
 obtain ⟨e1, e2, e3, -⟩ := f3.ks [(1, _), (2, _), (3, _)] ⟨e1, e2, e3, trivial⟩
 have e4 : get a3 4 = (.int .i64 (0)) := f3.v 0 rfl
 replace r0 := f3.ib 0 rfl
 clear f3
 show Code.wp _ _ _ a3 w3
 refine wp_block ?_
 refine wp_loop (fun a_ w_ => ∃ (k : Nat) (τ : Nat → Foot), (k ≤ t.kids.length) ∧
      (∀ y ∈ t.kids.take k, allF y = true) ∧
      St (Nw w) w 131 a_ w_ τ ∧
      get a_ 4 = (.int .i64 ((k : Int))) ∧
      get a_ 1 = b1x1 ∧
      get a_ 3 = (.int .i64 ((t.kids.length : Int))) ∧
      boxR 25 [(.int .i64 (t.k)), (.string (t.ch)), (.bool (t.ng)), t.rv.v, (.int .i64 (t.mn)), (.int .i64 (t.mx)), (.bool (t.lz)), t.kv.v] (τ 0) b1x1 w_) (fun a_ _ => t.kids.length - (intOf (get a_ 4)).toNat) ?_ ?_
 · refine ⟨0, τ3, ?_, ?_, st3, (e4.trans (int_eq (by omega))), e1, e3, r0⟩
   · omega
   · simp
 intro a4 w4 hI
 obtain ⟨k, τ4, q0, q1, st4, e4, e1, e3, r0⟩ := hI
 have hpk0 := hpk k
 have m4 := e4
 refine wp_seq ?_
 refine wp_seq ?_
 refine region_St (bf := [0, 0, 3]) (sp := [det _ 12 _, det _ 13 _, det _ 14 _]) [ib r0] mixed st4 (by kernel_rfl) ⟨r0, trivial⟩
  ⟨Ob.d fun c => r_move rfl (c.p e4),
  Ob.d fun c => r_move rfl (c.p e3),
  Ob.d fun c => r_lss rfl (c.n 0 rfl) (c.n 1 rfl), trivial⟩ ?_
 intro a5 w5 τ5 st5 f5
 obtain ⟨e1, e3, e4, -⟩ := f5.ks [(1, _), (3, _), (4, _)] ⟨e1, e3, e4, trivial⟩
 have e14 : get a5 14 = (.bool (decide ((k : Int) < (t.kids.length : Int)))) := f5.v 2 rfl
 replace r0 := f5.ib 0 rfl
 clear f5
 show Code.wp _ _ _ a5 w5
 refine wp_cond_split (t := decide ((k : Int) < (t.kids.length : Int))) e14 (fun hc1 => ?_) (fun hc1 => ?_)
 · try simp only [decide_eq_true_eq] at hc1
   refine wp_skip ?_
   show Code.wp _ _ _ a5 w5
   refine wp_seq ?_
   refine wp_block ?_
   refine wp_seq ?_
   refine region_St (bf := [0, 1, 0, 7, 15, 31, 63]) (sp := [det _ 17 _, det _ 18 _, det _ 19 _, det _ 20 _, det _ 21 _, det _ 22 _, det _ 23 _]) [ib r0] mixed st5 (by kernel_rfl) ⟨r0, trivial⟩
    ⟨Ob.d fun c => r_fieldAddr rfl Try.underlying25 rfl rfl Try.sizeOf23 ((c.p e1).trans r0.ptr),
    Ob.d fun c => r_load1 rfl Try.isAgg23 (c.n 0 rfl) ((c.ib 0 rfl).cell (j := 7) rfl),
    Ob.d fun c => r_move rfl (c.p e4),
    Ob.d fun c => r_indexAddr rfl Try.underlying23 Try.sizeOf25 (c.n 1 rfl) (hT.at st5.ext).tl.sl.sl (c.n 2 rfl) (by omega) (by omega),
    Ob.d fun c => r_loadN (vs := [(.int .i64 ((nth t.kids ((k : Int))).k)), (.string ((nth t.kids ((k : Int))).ch)), (.bool ((nth t.kids ((k : Int))).ng)), (nth t.kids ((k : Int))).rv.v, (.int .i64 ((nth t.kids ((k : Int))).mn)), (.int .i64 ((nth t.kids ((k : Int))).mx)), (.bool ((nth t.kids ((k : Int))).lz)), (nth t.kids ((k : Int))).kv.v]) rfl Try.isAgg25 Try.sizeOf25 (c.n 3 rfl) rfl (fun _ _ hj => ((hT.at (st5.ext.trans c.J.ext)).tl.sl).elem (nth_some (i := (k : Int)) (by omega) (by omega)) hj),
    Ob.c fun c => ⟨_, _, (e_call1 rfl rfl Try.call36 (c.n 4 rfl)), ih _ (nth_memI (by omega) (by omega)) _ ((hT.at (st5.ext.trans c.J.ext)).tl.el (by omega) (by omega)) (by omega)⟩,
    Ob.d fun c => r_not rfl (c.n 5 rfl), trivial⟩ ?_
   intro a6 w6 τ6 st6 f6
   obtain ⟨e1, e3, e4, e14, -⟩ := f6.ks [(1, _), (3, _), (4, _), (14, _)] ⟨e1, e3, e4, e14, trivial⟩
   have e23 : get a6 23 = (.bool (!(allF (nth t.kids ((k : Int)))))) := f6.v 6 rfl
   replace r0 := f6.ib 0 rfl
   clear f6
   show Code.wp _ _ _ a6 w6
   refine wp_cond_split (t := !(allF (nth t.kids ((k : Int))))) e23 (fun hc2 => ?_) (fun hc2 => ?_)
   · have hd2 := hc2; try simp only [Bool.not_eq_true', Bool.not_eq_false'] at hd2
     refine wp_seq ?_
     refine region_St (bf := [0]) (sp := [det _ 2 _]) [ib r0] mixed st6 (by kernel_rfl) ⟨r0, trivial⟩
      ⟨Ob.d fun c => r_assign rfl rfl, trivial⟩ ?_
     intro a7 w7 τ7 st7 f7
     obtain ⟨e1, e3, e4, e14, e23, -⟩ := f7.ks [(1, _), (3, _), (4, _), (14, _), (23, _)] ⟨e1, e3, e4, e14, e23, trivial⟩
     have e2 : get a7 2 = (.bool (false)) := f7.v 0 rfl
     replace r0 := f7.ib 0 rfl
     clear f7
     show Code.wp _ _ _ a7 w7
     refine wp_ret ?_
     repeat (first | with_reducible refine then_ret ?_ | with_reducible refine block_ret ?_)
     refine ret1 (fn := Try.f36) rfl st7.defers e2 ?_
     exact ⟨congrArg _ (congrArg _ (by first | exact allF_no (k := k) (by omega) (by assumption) | exact allF_here (k := k) q_1 (by omega) (f_seq_bad (k := j) (by omega) (by omega) (by assumption)) | exact allF_here (k := k) q_1 (by omega) (f_alt_bad (k := j) (by omega) (by omega) (by assumption)) | exact allF_here (k := k) q1 (by omega) (by unfold fieldsF; (repeat (first | rw [if_neg (by omega)] | rw [if_pos (by omega)])); (try rfl)))), st7.ext0⟩
   have hd2 := hc2; try simp only [Bool.not_eq_true', Bool.not_eq_false'] at hd2
   refine wp_skip ?_
   show _
   show Code.wp _ _ _ a6 w6
   refine region_St (bf := [0, 1, 3]) (sp := [det _ 15 _, det _ 16 _, det _ 4 _]) [ib r0] mixed st6 (by kernel_rfl) ⟨r0, trivial⟩
    ⟨Ob.d fun c => r_move rfl (c.p e4),
    Ob.d fun c => r_add rfl (c.n 0 rfl) rfl (by omega),
    Ob.d fun c => r_assign rfl (c.n 1 rfl), trivial⟩ ?_
   intro a8 w8 τ8 st8 f8
   obtain ⟨e1, e3, e14, e23, -⟩ := f8.ks [(1, _), (3, _), (14, _), (23, _)] ⟨e1, e3, e14, e23, trivial⟩
   have e4 : get a8 4 = (.int .i64 ((k : Int) + 1)) := f8.v 2 rfl
   replace r0 := f8.ib 0 rfl
   clear f8
   refine ⟨⟨k + 1, τ8, ?_, ?_, st8, (e4.trans (int_eq (by omega))), e1, e3, r0⟩, ?_⟩
   · omega
   · exact all_step (by omega) q1 (by simpa using (by assumption : (!allF (nth t.kids (k : Int))) = false))
   · simp only [m4, e4, intOf]; omega
 try simp only [decide_eq_false_iff_not, Int.not_lt] at hc1
 refine wp_exit ?_
 repeat (with_reducible refine then_exit ?_)
 refine exit_here ?_
 show Code.wp _ _ _ a5 w5
 refine wp_seq ?_
 refine wp_seq ?_
 refine region_St (bf := [0, 1]) (sp := [det _ 24 _, det _ 25 _]) [ib r0] mixed st5 (by kernel_rfl) ⟨r0, trivial⟩
  ⟨Ob.d fun c => r_fieldAddr rfl Try.underlying25 rfl rfl Try.sizeOf3 ((c.p e1).trans r0.ptr),
  Ob.d fun c => r_load1 rfl Try.isAgg3 (c.n 0 rfl) ((c.ib 0 rfl).cell (j := 0) rfl), trivial⟩ ?_
 intro a9 w9 τ9 st9 f9
 obtain ⟨e1, e3, -⟩ := f9.ks [(1, _), (3, _)] ⟨e1, e3, trivial⟩
 have e25 : get a9 25 = (.int .i64 (t.k)) := f9.v 1 rfl
 replace r0 := f9.ib 0 rfl
 clear f9
 show Code.wp _ _ _ a9 w9
 refine wp_block ?_
 refine wp_seq ?_
 refine region_St (bf := [0, 1]) (sp := [det _ 27 _, det _ 26 _]) [ib r0] mixed st9 (by kernel_rfl) ⟨r0, trivial⟩
  ⟨Ob.d fun c => r_eql rfl (c.p e25) rfl,
  Ob.d fun c => r_assign rfl (c.n 0 rfl), trivial⟩ ?_
 intro a10 w10 τ10 st10 f10
 obtain ⟨e1, e3, e25, -⟩ := f10.ks [(1, _), (3, _), (25, _)] ⟨e1, e3, e25, trivial⟩
 have e26 : get a10 26 = (.bool (decide (t.k = 0))) := f10.v 1 rfl
 replace r0 := f10.ib 0 rfl
 clear f10
 show Code.wp _ _ _ a10 w10
 refine wp_cond_split (t := decide (t.k = 0)) e26 (fun hc3 => ?_) (fun hc3 => ?_)
 · try simp only [decide_eq_true_eq] at hc3
   refine wp_seq ?_
   refine wp_seq ?_
   have q_1 := q1
   refine region_St (bf := [0]) (sp := [det _ 5 _]) [ib r0] mixed st10 (by kernel_rfl) ⟨r0, trivial⟩
    ⟨Ob.d fun c => r_assign rfl rfl, trivial⟩ ?_
   intro a11 w11 τ11 st11 f11
   obtain ⟨e1, e3, e25, -⟩ := f11.ks [(1, _), (3, _), (25, _)] ⟨e1, e3, e25, trivial⟩
   have e5 : get a11 5 = (.int .i64 (0)) := f11.v 0 rfl
   replace r0 := f11.ib 0 rfl
   clear f11
   show Code.wp _ _ _ a11 w11
   refine wp_block ?_
   refine wp_loop (fun a_ w_ => ∃ (j : Nat) (τ : Nat → Foot), (j ≤ t.kids.length) ∧
          (∀ y ∈ t.kids.take j, (decide (y.k = 0) || decide (y.k = 1)) = false) ∧
          St (Nw w) w 131 a_ w_ τ ∧
          get a_ 5 = (.int .i64 ((j : Int))) ∧
          get a_ 1 = b1x1 ∧
          get a_ 3 = (.int .i64 ((t.kids.length : Int))) ∧
          get a_ 25 = (.int .i64 (t.k)) ∧
          boxR 25 [(.int .i64 (t.k)), (.string (t.ch)), (.bool (t.ng)), t.rv.v, (.int .i64 (t.mn)), (.int .i64 (t.mx)), (.bool (t.lz)), t.kv.v] (τ 0) b1x1 w_) (fun a_ _ => t.kids.length - (intOf (get a_ 5)).toNat) ?_ ?_
   · refine ⟨0, τ11, ?_, ?_, st11, (e5.trans (int_eq (by omega))), e1, e3, e25, r0⟩
     · omega
     · simp
   intro a12 w12 hI
   obtain ⟨j, τ12, q0, q1, st12, e5, e1, e3, e25, r0⟩ := hI
   have m5 := e5
   refine wp_seq ?_
   refine wp_seq ?_
   refine region_St (bf := [0, 0, 3]) (sp := [det _ 28 _, det _ 29 _, det _ 30 _]) [ib r0] mixed st12 (by kernel_rfl) ⟨r0, trivial⟩
    ⟨Ob.d fun c => r_move rfl (c.p e5),
    Ob.d fun c => r_move rfl (c.p e3),
    Ob.d fun c => r_lss rfl (c.n 0 rfl) (c.n 1 rfl), trivial⟩ ?_
   intro a13 w13 τ13 st13 f13
   obtain ⟨e1, e3, e5, e25, -⟩ := f13.ks [(1, _), (3, _), (5, _), (25, _)] ⟨e1, e3, e5, e25, trivial⟩
   have e30 : get a13 30 = (.bool (decide ((j : Int) < (t.kids.length : Int)))) := f13.v 2 rfl
   replace r0 := f13.ib 0 rfl
   clear f13
   show Code.wp _ _ _ a13 w13
   refine wp_cond_split (t := decide ((j : Int) < (t.kids.length : Int))) e30 (fun hc4 => ?_) (fun hc4 => ?_)
   · try simp only [decide_eq_true_eq] at hc4
     refine wp_skip ?_
     show Code.wp _ _ _ a13 w13
     refine wp_seq ?_
     refine wp_block ?_
     refine wp_seq ?_
     refine region_St (bf := [0, 1, 0, 7, 15, 31, 63, 127, 255, 511, 255, 2047, 4095, 8191, 16383, 32767]) (sp := [det _ 33 _, det _ 34 _, det _ 35 _, det _ 36 _, det _ 37 _, det _ 38 _, det _ 39 _, det _ 40 _, gdet _ 41 _ _, gdet _ 42 _ _, gdet _ 43 _ _, gdet _ 44 _ _, gdet _ 45 _ _, gdet _ 46 _ _, gdet _ 47 _ _, det _ 48 _]) [ib r0] mixed st13 (by kernel_rfl) ⟨r0, trivial⟩
      ⟨Ob.d fun c => r_fieldAddr rfl Try.underlying25 rfl rfl Try.sizeOf23 ((c.p e1).trans r0.ptr),
      Ob.d fun c => r_load1 rfl Try.isAgg23 (c.n 0 rfl) ((c.ib 0 rfl).cell (j := 7) rfl),
      Ob.d fun c => r_move rfl (c.p e5),
      Ob.d fun c => r_indexAddr rfl Try.underlying23 Try.sizeOf25 (c.n 1 rfl) (hT.at st13.ext).tl.sl.sl (c.n 2 rfl) (by omega) (by omega),
      Ob.d fun c => r_fieldAddr rfl Try.underlying25 rfl rfl Try.sizeOf3 (c.n 3 rfl),
      Ob.d fun c => r_load1 rfl Try.isAgg3 (c.n 4 rfl) (((hT.at (st13.ext.trans c.J.ext)).tl.sl).elem (j := 0) (nth_some (i := (j : Int)) (by omega) (by omega)) rfl),
      Ob.d fun c => r_eql rfl (c.n 5 rfl) rfl,
      Ob.d fun c => r_move rfl (c.n 6 rfl),
      Ob.g 7 false rfl fun c hpc => r_fieldAddr rfl Try.underlying25 rfl rfl Try.sizeOf23 ((c.p e1).trans r0.ptr),
      Ob.g 7 false rfl fun c hpc => r_load1 rfl Try.isAgg23 (c.m 8 rfl hpc) ((c.ib 0 rfl).cell (j := 7) rfl),
      Ob.g 7 false rfl fun c hpc => r_move rfl (c.p e5),
      Ob.g 7 false rfl fun c hpc => r_indexAddr rfl Try.underlying23 Try.sizeOf25 (c.m 9 rfl hpc) (hT.at st13.ext).tl.sl.sl (c.m 10 rfl hpc) (by have hq0 := bn hpc; omega) (by have hq0 := bn hpc; omega),
      Ob.g 7 false rfl fun c hpc => r_fieldAddr rfl Try.underlying25 rfl rfl Try.sizeOf3 (c.m 11 rfl hpc),
      Ob.g 7 false rfl fun c hpc => r_load1 rfl Try.isAgg3 (c.m 12 rfl hpc) (((hT.at (st13.ext.trans c.J.ext)).tl.sl).elem (j := 0) (nth_some (i := (j : Int)) (by have hq0 := bn hpc; omega) (by have hq0 := bn hpc; omega)) rfl),
      Ob.g 7 false rfl fun c hpc => r_eql rfl (c.m 13 rfl hpc) rfl,
      Ob.d fun c => r_or rfl (c.n 7 rfl) (fun h => c.m 14 rfl h), trivial⟩ ?_
     intro a14 w14 τ14 st14 f14
     obtain ⟨e1, e3, e5, e25, e30, -⟩ := f14.ks [(1, _), (3, _), (5, _), (25, _), (30, _)] ⟨e1, e3, e5, e25, e30, trivial⟩
     have e48 : get a14 48 = (.bool ((decide ((nth t.kids ((j : Int))).k = 0)) || (decide ((nth t.kids ((j : Int))).k = 1)))) := f14.v 15 rfl
     replace r0 := f14.ib 0 rfl
     clear f14
     show Code.wp _ _ _ a14 w14
     refine wp_cond_split (t := (decide ((nth t.kids ((j : Int))).k = 0)) || (decide ((nth t.kids ((j : Int))).k = 1))) e48 (fun hc5 => ?_) (fun hc5 => ?_)
     · have hd5 := hc5; try simp only [Bool.or_eq_true, decide_eq_true_eq] at hd5
       refine wp_seq ?_
       refine region_St (bf := [0]) (sp := [det _ 2 _]) [ib r0] mixed st14 (by kernel_rfl) ⟨r0, trivial⟩
        ⟨Ob.d fun c => r_assign rfl rfl, trivial⟩ ?_
       intro a15 w15 τ15 st15 f15
       obtain ⟨e1, e3, e5, e25, e30, e48, -⟩ := f15.ks [(1, _), (3, _), (5, _), (25, _), (30, _), (48, _)] ⟨e1, e3, e5, e25, e30, e48, trivial⟩
       have e2 : get a15 2 = (.bool (false)) := f15.v 0 rfl
       replace r0 := f15.ib 0 rfl
       clear f15
       show Code.wp _ _ _ a15 w15
       refine wp_ret ?_
       repeat (first | with_reducible refine then_ret ?_ | with_reducible refine block_ret ?_)
       refine ret1 (fn := Try.f36) rfl st15.defers e2 ?_
       exact ⟨congrArg _ (congrArg _ (by first | exact allF_no (k := k) (by omega) (by assumption) | exact allF_here (k := k) q_1 (by omega) (f_seq_bad (k := j) (by omega) (by omega) (by assumption)) | exact allF_here (k := k) q_1 (by omega) (f_alt_bad (k := j) (by omega) (by omega) (by assumption)) | exact allF_here (k := k) q1 (by omega) (by unfold fieldsF; (repeat (first | rw [if_neg (by omega)] | rw [if_pos (by omega)])); (try rfl)))), st15.ext0⟩
     have hd5 := hc5; try simp only [Bool.or_eq_false_iff, decide_eq_false_iff_not] at hd5
     refine wp_skip ?_
     show _
     show Code.wp _ _ _ a14 w14
     refine region_St (bf := [0, 1, 3]) (sp := [det _ 31 _, det _ 32 _, det _ 5 _]) [ib r0] mixed st14 (by kernel_rfl) ⟨r0, trivial⟩
      ⟨Ob.d fun c => r_move rfl (c.p e5),
      Ob.d fun c => r_add rfl (c.n 0 rfl) rfl (by omega),
      Ob.d fun c => r_assign rfl (c.n 1 rfl), trivial⟩ ?_
     intro a16 w16 τ16 st16 f16
     obtain ⟨e1, e3, e25, e30, e48, -⟩ := f16.ks [(1, _), (3, _), (25, _), (30, _), (48, _)] ⟨e1, e3, e25, e30, e48, trivial⟩
     have e5 : get a16 5 = (.int .i64 ((j : Int) + 1)) := f16.v 2 rfl
     replace r0 := f16.ib 0 rfl
     clear f16
     refine ⟨⟨j + 1, τ16, ?_, ?_, st16, (e5.trans (int_eq (by omega))), e1, e3, e25, r0⟩, ?_⟩
     · omega
     · exact ix_step (f := fun y : Tr => decide (y.k = 0) || decide (y.k = 1)) (by omega) q1 (by assumption)
     · simp only [m5, e5, intOf]; omega
   try simp only [decide_eq_false_iff_not, Int.not_lt] at hc4
   refine wp_exit ?_
   repeat (with_reducible refine then_exit ?_)
   refine exit_here ?_
   show Code.wp _ _ _ a13 w13
   refine wp_seq ?_
   refine region_St (bf := [0, 1, 3, 7, 15, 31, 63]) (sp := [det _ 49 _, det _ 50 _, det _ 51 _, gdet _ 52 _ _, gdet _ 53 _ _, det _ 54 _, det _ 2 _]) [ib r0] mixed st13 (by kernel_rfl) ⟨r0, trivial⟩
    ⟨Ob.d fun c => r_loadN (vs := [(.int .i64 (t.k)), (.string (t.ch)), (.bool (t.ng)), t.rv.v, (.int .i64 (t.mn)), (.int .i64 (t.mx)), (.bool (t.lz)), t.kv.v]) rfl Try.isAgg25 Try.sizeOf25 ((c.p e1).trans r0.ptr) rfl (fun _ _ hj => (c.ib 0 rfl).cell hj),
    Ob.c fun c => ⟨_, _, (e_call1 rfl rfl Try.call41 (c.n 0 rfl)), refBare_c t.k t.ch t.ng t.rv.v t.rows t.mn t.mx t.lz t.kv.v rfl _ (hT.at (st13.ext.trans c.J.ext)).rows⟩,
    Ob.d fun c => r_move rfl (c.n 1 rfl),
    Ob.g 2 true rfl fun c hpc => r_move rfl (c.p e3),
    Ob.g 2 true rfl fun c hpc => r_neq rfl (c.m 3 rfl hpc) rfl,
    Ob.d fun c => r_and rfl (c.n 2 rfl) (fun h => c.m 4 rfl h),
    Ob.d fun c => r_assign rfl (c.n 5 rfl), trivial⟩ ?_
   intro a17 w17 τ17 st17 f17
   obtain ⟨e1, e3, e25, -⟩ := f17.ks [(1, _), (3, _), (25, _)] ⟨e1, e3, e25, trivial⟩
   have e2 : get a17 2 = (.bool ((bareF t.ch t.ng t.rows t.mn t.mx t.lz) && (!decide ((t.kids.length : Int) = 1)))) := f17.v 6 rfl
   replace r0 := f17.ib 0 rfl
   clear f17
   show Code.wp _ _ _ a17 w17
   refine wp_ret ?_
   repeat (first | with_reducible refine then_ret ?_ | with_reducible refine block_ret ?_)
   refine ret1 (fn := Try.f36) rfl st17.defers e2 ?_
   exact ⟨congrArg _ (congrArg _ (by exact allF_here (k := k) q_1 (by omega) (f_seq_ok (k := j) (by omega) (by omega) q1))), st17.ext0⟩
 try simp only [decide_eq_false_iff_not] at hc3
 refine wp_seq ?_
 refine region_St (bf := [0, 1]) (sp := [det _ 56 _, det _ 55 _]) [ib r0] mixed st10 (by kernel_rfl) ⟨r0, trivial⟩
  ⟨Ob.d fun c => r_eql rfl (c.p e25) rfl,
  Ob.d fun c => r_assign rfl (c.n 0 rfl), trivial⟩ ?_
 intro a18 w18 τ18 st18 f18
 obtain ⟨e1, e3, e25, -⟩ := f18.ks [(1, _), (3, _), (25, _)] ⟨e1, e3, e25, trivial⟩
 have e55 : get a18 55 = (.bool (decide (t.k = 1))) := f18.v 1 rfl
 replace r0 := f18.ib 0 rfl
 clear f18
 show Code.wp _ _ _ a18 w18
 refine wp_cond_split (t := decide (t.k = 1)) e55 (fun hc6 => ?_) (fun hc6 => ?_)
 · try simp only [decide_eq_true_eq] at hc6
   refine wp_seq ?_
   refine wp_seq ?_
   have q_1 := q1
   refine region_St (bf := [0]) (sp := [det _ 6 _]) [ib r0] mixed st18 (by kernel_rfl) ⟨r0, trivial⟩
    ⟨Ob.d fun c => r_assign rfl rfl, trivial⟩ ?_
   intro a19 w19 τ19 st19 f19
   obtain ⟨e1, e3, e25, -⟩ := f19.ks [(1, _), (3, _), (25, _)] ⟨e1, e3, e25, trivial⟩
   have e6 : get a19 6 = (.int .i64 (0)) := f19.v 0 rfl
   replace r0 := f19.ib 0 rfl
   clear f19
   show Code.wp _ _ _ a19 w19
   refine wp_block ?_
   refine wp_loop (fun a_ w_ => ∃ (j : Nat) (τ : Nat → Foot), (j ≤ t.kids.length) ∧
          (∀ y ∈ t.kids.take j, decide (y.k = 1) = false) ∧
          St (Nw w) w 131 a_ w_ τ ∧
          get a_ 6 = (.int .i64 ((j : Int))) ∧
          get a_ 1 = b1x1 ∧
          get a_ 3 = (.int .i64 ((t.kids.length : Int))) ∧
          get a_ 25 = (.int .i64 (t.k)) ∧
          boxR 25 [(.int .i64 (t.k)), (.string (t.ch)), (.bool (t.ng)), t.rv.v, (.int .i64 (t.mn)), (.int .i64 (t.mx)), (.bool (t.lz)), t.kv.v] (τ 0) b1x1 w_) (fun a_ _ => t.kids.length - (intOf (get a_ 6)).toNat) ?_ ?_
   · refine ⟨0, τ19, ?_, ?_, st19, (e6.trans (int_eq (by omega))), e1, e3, e25, r0⟩
     · omega
     · simp
   intro a20 w20 hI
   obtain ⟨j, τ20, q0, q1, st20, e6, e1, e3, e25, r0⟩ := hI
   have m6 := e6
   refine wp_seq ?_
   refine wp_seq ?_
   refine region_St (bf := [0, 0, 3]) (sp := [det _ 57 _, det _ 58 _, det _ 59 _]) [ib r0] mixed st20 (by kernel_rfl) ⟨r0, trivial⟩
    ⟨Ob.d fun c => r_move rfl (c.p e6),
    Ob.d fun c => r_move rfl (c.p e3),
    Ob.d fun c => r_lss rfl (c.n 0 rfl) (c.n 1 rfl), trivial⟩ ?_
   intro a21 w21 τ21 st21 f21
   obtain ⟨e1, e3, e6, e25, -⟩ := f21.ks [(1, _), (3, _), (6, _), (25, _)] ⟨e1, e3, e6, e25, trivial⟩
   have e59 : get a21 59 = (.bool (decide ((j : Int) < (t.kids.length : Int)))) := f21.v 2 rfl
   replace r0 := f21.ib 0 rfl
   clear f21
   show Code.wp _ _ _ a21 w21
   refine wp_cond_split (t := decide ((j : Int) < (t.kids.length : Int))) e59 (fun hc7 => ?_) (fun hc7 => ?_)
   · try simp only [decide_eq_true_eq] at hc7
     refine wp_skip ?_
     show Code.wp _ _ _ a21 w21
     refine wp_seq ?_
     refine wp_block ?_
     refine wp_seq ?_
     refine region_St (bf := [0, 1, 0, 7, 15, 31, 63]) (sp := [det _ 62 _, det _ 63 _, det _ 64 _, det _ 65 _, det _ 66 _, det _ 67 _, det _ 68 _]) [ib r0] mixed st21 (by kernel_rfl) ⟨r0, trivial⟩
      ⟨Ob.d fun c => r_fieldAddr rfl Try.underlying25 rfl rfl Try.sizeOf23 ((c.p e1).trans r0.ptr),
      Ob.d fun c => r_load1 rfl Try.isAgg23 (c.n 0 rfl) ((c.ib 0 rfl).cell (j := 7) rfl),
      Ob.d fun c => r_move rfl (c.p e6),
      Ob.d fun c => r_indexAddr rfl Try.underlying23 Try.sizeOf25 (c.n 1 rfl) (hT.at st21.ext).tl.sl.sl (c.n 2 rfl) (by omega) (by omega),
      Ob.d fun c => r_fieldAddr rfl Try.underlying25 rfl rfl Try.sizeOf3 (c.n 3 rfl),
      Ob.d fun c => r_load1 rfl Try.isAgg3 (c.n 4 rfl) (((hT.at (st21.ext.trans c.J.ext)).tl.sl).elem (j := 0) (nth_some (i := (j : Int)) (by omega) (by omega)) rfl),
      Ob.d fun c => r_eql rfl (c.n 5 rfl) rfl, trivial⟩ ?_
     intro a22 w22 τ22 st22 f22
     obtain ⟨e1, e3, e6, e25, e59, -⟩ := f22.ks [(1, _), (3, _), (6, _), (25, _), (59, _)] ⟨e1, e3, e6, e25, e59, trivial⟩
     have e68 : get a22 68 = (.bool (decide ((nth t.kids ((j : Int))).k = 1))) := f22.v 6 rfl
     replace r0 := f22.ib 0 rfl
     clear f22
     show Code.wp _ _ _ a22 w22
     refine wp_cond_split (t := decide ((nth t.kids ((j : Int))).k = 1)) e68 (fun hc8 => ?_) (fun hc8 => ?_)
     · have hd8 := hc8; try simp only [decide_eq_true_eq] at hd8
       refine wp_seq ?_
       refine region_St (bf := [0]) (sp := [det _ 2 _]) [ib r0] mixed st22 (by kernel_rfl) ⟨r0, trivial⟩
        ⟨Ob.d fun c => r_assign rfl rfl, trivial⟩ ?_
       intro a23 w23 τ23 st23 f23
       obtain ⟨e1, e3, e6, e25, e59, e68, -⟩ := f23.ks [(1, _), (3, _), (6, _), (25, _), (59, _), (68, _)] ⟨e1, e3, e6, e25, e59, e68, trivial⟩
       have e2 : get a23 2 = (.bool (false)) := f23.v 0 rfl
       replace r0 := f23.ib 0 rfl
       clear f23
       show Code.wp _ _ _ a23 w23
       refine wp_ret ?_
       repeat (first | with_reducible refine then_ret ?_ | with_reducible refine block_ret ?_)
       refine ret1 (fn := Try.f36) rfl st23.defers e2 ?_
       exact ⟨congrArg _ (congrArg _ (by first | exact allF_no (k := k) (by omega) (by assumption) | exact allF_here (k := k) q_1 (by omega) (f_seq_bad (k := j) (by omega) (by omega) (by assumption)) | exact allF_here (k := k) q_1 (by omega) (f_alt_bad (k := j) (by omega) (by omega) (by assumption)) | exact allF_here (k := k) q1 (by omega) (by unfold fieldsF; (repeat (first | rw [if_neg (by omega)] | rw [if_pos (by omega)])); (try rfl)))), st23.ext0⟩
     have hd8 := hc8; try simp only [decide_eq_false_iff_not] at hd8
     refine wp_skip ?_
     show _
     show Code.wp _ _ _ a22 w22
     refine region_St (bf := [0, 1, 3]) (sp := [det _ 60 _, det _ 61 _, det _ 6 _]) [ib r0] mixed st22 (by kernel_rfl) ⟨r0, trivial⟩
      ⟨Ob.d fun c => r_move rfl (c.p e6),
      Ob.d fun c => r_add rfl (c.n 0 rfl) rfl (by omega),
      Ob.d fun c => r_assign rfl (c.n 1 rfl), trivial⟩ ?_
     intro a24 w24 τ24 st24 f24
     obtain ⟨e1, e3, e25, e59, e68, -⟩ := f24.ks [(1, _), (3, _), (25, _), (59, _), (68, _)] ⟨e1, e3, e25, e59, e68, trivial⟩
     have e6 : get a24 6 = (.int .i64 ((j : Int) + 1)) := f24.v 2 rfl
     replace r0 := f24.ib 0 rfl
     clear f24
     refine ⟨⟨j + 1, τ24, ?_, ?_, st24, (e6.trans (int_eq (by omega))), e1, e3, e25, r0⟩, ?_⟩
     · omega
     · exact ix_step (f := fun y : Tr => decide (y.k = 1)) (by omega) q1 (by assumption)
     · simp only [m6, e6, intOf]; omega
   try simp only [decide_eq_false_iff_not, Int.not_lt] at hc7
   refine wp_exit ?_
   repeat (with_reducible refine then_exit ?_)
   refine exit_here ?_
   show Code.wp _ _ _ a21 w21
   refine wp_seq ?_
   refine region_St (bf := [0, 1, 3, 7, 15, 31, 63]) (sp := [det _ 69 _, det _ 70 _, det _ 71 _, gdet _ 72 _ _, gdet _ 73 _ _, det _ 74 _, det _ 2 _]) [ib r0] mixed st21 (by kernel_rfl) ⟨r0, trivial⟩
    ⟨Ob.d fun c => r_loadN (vs := [(.int .i64 (t.k)), (.string (t.ch)), (.bool (t.ng)), t.rv.v, (.int .i64 (t.mn)), (.int .i64 (t.mx)), (.bool (t.lz)), t.kv.v]) rfl Try.isAgg25 Try.sizeOf25 ((c.p e1).trans r0.ptr) rfl (fun _ _ hj => (c.ib 0 rfl).cell hj),
    Ob.c fun c => ⟨_, _, (e_call1 rfl rfl Try.call41 (c.n 0 rfl)), refBare_c t.k t.ch t.ng t.rv.v t.rows t.mn t.mx t.lz t.kv.v rfl _ (hT.at (st21.ext.trans c.J.ext)).rows⟩,
    Ob.d fun c => r_move rfl (c.n 1 rfl),
    Ob.g 2 true rfl fun c hpc => r_move rfl (c.p e3),
    Ob.g 2 true rfl fun c hpc => r_geq rfl (c.m 3 rfl hpc) rfl,
    Ob.d fun c => r_and rfl (c.n 2 rfl) (fun h => c.m 4 rfl h),
    Ob.d fun c => r_assign rfl (c.n 5 rfl), trivial⟩ ?_
   intro a25 w25 τ25 st25 f25
   obtain ⟨e1, e3, e25, -⟩ := f25.ks [(1, _), (3, _), (25, _)] ⟨e1, e3, e25, trivial⟩
   have e2 : get a25 2 = (.bool ((bareF t.ch t.ng t.rows t.mn t.mx t.lz) && (decide (2 ≤ (t.kids.length : Int))))) := f25.v 6 rfl
   replace r0 := f25.ib 0 rfl
   clear f25
   show Code.wp _ _ _ a25 w25
   refine wp_ret ?_
   repeat (first | with_reducible refine then_ret ?_ | with_reducible refine block_ret ?_)
   refine ret1 (fn := Try.f36) rfl st25.defers e2 ?_
   exact ⟨congrArg _ (congrArg _ (by exact allF_here (k := k) q_1 (by omega) (f_alt_ok (k := j) (by omega) (by omega) q1))), st25.ext0⟩
 try simp only [decide_eq_false_iff_not] at hc6
 refine wp_seq ?_
 refine region_St (bf := [0, 1]) (sp := [det _ 76 _, det _ 75 _]) [ib r0] mixed st18 (by kernel_rfl) ⟨r0, trivial⟩
  ⟨Ob.d fun c => r_eql rfl (c.p e25) rfl,
  Ob.d fun c => r_assign rfl (c.n 0 rfl), trivial⟩ ?_
 intro a26 w26 τ26 st26 f26
 obtain ⟨e1, e3, e25, -⟩ := f26.ks [(1, _), (3, _), (25, _)] ⟨e1, e3, e25, trivial⟩
 have e75 : get a26 75 = (.bool (decide (t.k = 2))) := f26.v 1 rfl
 replace r0 := f26.ib 0 rfl
 clear f26
 show Code.wp _ _ _ a26 w26
 refine wp_cond_split (t := decide (t.k = 2)) e75 (fun hc9 => ?_) (fun hc9 => ?_)
 · try simp only [decide_eq_true_eq] at hc9
   refine wp_seq ?_
   refine region_St (bf := [0, 1, 3]) (sp := [det _ 77 _, det _ 78 _, det _ 7 _]) [ib r0] mixed st26 (by kernel_rfl) ⟨r0, trivial⟩
    ⟨Ob.d fun c => r_fieldAddr rfl Try.underlying25 rfl rfl Try.sizeOf9 ((c.p e1).trans r0.ptr),
    Ob.d fun c => r_load1 rfl Try.isAgg9 (c.n 0 rfl) ((c.ib 0 rfl).cell (j := 1) rfl),
    Ob.d fun c => r_assign rfl (c.n 1 rfl), trivial⟩ ?_
   intro a27 w27 τ27 st27 f27
   obtain ⟨e1, e3, e25, -⟩ := f27.ks [(1, _), (3, _), (25, _)] ⟨e1, e3, e25, trivial⟩
   have e7 : get a27 7 = (.string (t.ch)) := f27.v 2 rfl
   replace r0 := f27.ib 0 rfl
   clear f27
   show Code.wp _ _ _ a27 w27
   refine wp_seq ?_
   refine region_St (bf := [0, 1]) (sp := [det _ 79 _, box _ _ 0 1 [(.int .i64 (t.k)), (.string ((⟨#[]⟩ : ByteArray))), (.bool (t.ng)), t.rv.v, (.int .i64 (t.mn)), (.int .i64 (t.mx)), (.bool (t.lz)), t.kv.v]]) [ib r0] mixed st27 (by kernel_rfl) ⟨r0, trivial⟩
    ⟨Ob.d fun c => r_fieldAddr rfl Try.underlying25 rfl rfl Try.sizeOf9 ((c.p e1).trans r0.ptr),
    Ob.storeBox (off := 1) (v := (.string ((⟨#[]⟩ : ByteArray)))) rfl rfl rfl rfl Try.sizeOf9 (Nat.le_of_ble_eq_true rfl) (by simp [Value.cells, Value.oneCell', Sv.v]) rfl (fun _ _ _ _ c => ⟨c.bp 0 rfl e1, c.ad (c.n 0 rfl) e1 rfl, rfl⟩), trivial⟩ ?_
   intro a28 w28 τ28 st28 f28
   obtain ⟨e1, e3, e7, e25, -⟩ := f28.ks [(1, _), (3, _), (7, _), (25, _)] ⟨e1, e3, e7, e25, trivial⟩
   replace r0 : boxR 25 [(.int .i64 (t.k)), (.string ((⟨#[]⟩ : ByteArray))), (.bool (t.ng)), t.rv.v, (.int .i64 (t.mn)), (.int .i64 (t.mx)), (.bool (t.lz)), t.kv.v] (τ28 0) b1x1 w28 := f28.rb 1 e1 rfl
   clear f28
   show Code.wp _ _ _ a28 w28
   refine wp_seq ?_
   refine region_St (bf := [0, 1, 3, 7, 15, 31, 63, 127, 255, 511, 1023]) (sp := [det _ 80 _, det _ 81 _, det _ 82 _, gdet _ 83 _ _, gdet _ 84 _ _, det _ 85 _, det _ 86 _, gdet _ 87 _ _, gdet _ 88 _ _, det _ 89 _, det _ 2 _]) [ib r0] mixed st28 (by kernel_rfl) ⟨r0, trivial⟩
    ⟨Ob.d fun c => r_loadN (vs := [(.int .i64 (t.k)), (.string ((⟨#[]⟩ : ByteArray))), (.bool (t.ng)), t.rv.v, (.int .i64 (t.mn)), (.int .i64 (t.mx)), (.bool (t.lz)), t.kv.v]) rfl Try.isAgg25 Try.sizeOf25 ((c.p e1).trans r0.ptr) rfl (fun _ _ hj => (c.ib 0 rfl).cell hj),
    Ob.c fun c => ⟨_, _, (e_call1 rfl rfl Try.call41 (c.n 0 rfl)), refBare_c t.k (⟨#[]⟩ : ByteArray) t.ng t.rv.v t.rows t.mn t.mx t.lz t.kv.v rfl _ (hT.at (st28.ext.trans c.J.ext)).rows⟩,
    Ob.d fun c => r_move rfl (c.n 1 rfl),
    Ob.g 2 true rfl fun c hpc => r_move rfl (c.p e3),
    Ob.g 2 true rfl fun c hpc => r_eql rfl (c.m 3 rfl hpc) rfl,
    Ob.d fun c => r_and rfl (c.n 2 rfl) (fun h => c.m 4 rfl h),
    Ob.d fun c => r_move rfl (c.n 5 rfl),
    Ob.g 6 true rfl fun c hpc => r_move rfl (c.p e7),
    Ob.gc 6 true rfl fun c hpc => ⟨_, _, (e_call1 rfl rfl Try.call42 (c.m 7 rfl hpc)), refProper_c t.ch _ (by have hq0 := hpc; (try simp only [Bool.and_eq_true, decide_eq_true_eq] at hq0); omega)⟩,
    Ob.d fun c => r_and rfl (c.n 6 rfl) (fun h => c.m 8 rfl h),
    Ob.d fun c => r_assign rfl (c.n 9 rfl), trivial⟩ ?_
   intro a29 w29 τ29 st29 f29
   obtain ⟨e1, e3, e25, -⟩ := f29.ks [(1, _), (3, _), (25, _)] ⟨e1, e3, e25, trivial⟩
   have e2 : get a29 2 = (.bool (((bareF (⟨#[]⟩ : ByteArray) t.ng t.rows t.mn t.mx t.lz) && (decide ((t.kids.length : Int) = 0))) && (properB t.ch))) := f29.v 10 rfl
   replace r0 := f29.ib 0 rfl
   clear f29
   show Code.wp _ _ _ a29 w29
   refine wp_ret ?_
   repeat (first | with_reducible refine then_ret ?_ | with_reducible refine block_ret ?_)
   refine ret1 (fn := Try.f36) rfl st29.defers e2 ?_
   exact ⟨congrArg _ (congrArg _ (by exact allF_here (k := k) q1 (by omega) (by unfold fieldsF; (repeat (first | rw [if_neg (by omega)] | rw [if_pos (by omega)])); (try rfl)))), st29.ext0⟩
 try simp only [decide_eq_false_iff_not] at hc9
 refine wp_seq ?_
 refine wp_seq ?_
 refine region_St (bf := [0, 1]) (sp := [det _ 91 _, det _ 90 _]) [ib r0] mixed st26 (by kernel_rfl) ⟨r0, trivial⟩
  ⟨Ob.d fun c => r_eql rfl (c.p e25) rfl,
  Ob.d fun c => r_assign rfl (c.n 0 rfl), trivial⟩ ?_
 intro a30 w30 τ30 st30 f30
 obtain ⟨e1, e3, e25, -⟩ := f30.ks [(1, _), (3, _), (25, _)] ⟨e1, e3, e25, trivial⟩
 have e90 : get a30 90 = (.bool (decide (t.k = 3))) := f30.v 1 rfl
 replace r0 := f30.ib 0 rfl
 clear f30
 show Code.wp _ _ _ a30 w30
 refine wp_cond_split (t := decide (t.k = 3)) e90 (fun hc10 => ?_) (fun hc10 => ?_)
 · have hd10 := hc10; try simp only [decide_eq_true_eq] at hd10
   refine wp_skip ?_
   show Code.wp _ _ _ a30 w30
   refine wp_cond_true (e90.trans (congrArg _ hc10)) ?_
   refine wp_seq ?_
   refine region_St (bf := [0, 1, 3, 7, 15, 31, 63]) (sp := [det _ 96 _, det _ 97 _, det _ 98 _, gdet _ 99 _ _, gdet _ 100 _ _, det _ 101 _, det _ 2 _]) [ib r0] mixed st30 (by kernel_rfl) ⟨r0, trivial⟩
    ⟨Ob.d fun c => r_loadN (vs := [(.int .i64 (t.k)), (.string (t.ch)), (.bool (t.ng)), t.rv.v, (.int .i64 (t.mn)), (.int .i64 (t.mx)), (.bool (t.lz)), t.kv.v]) rfl Try.isAgg25 Try.sizeOf25 ((c.p e1).trans r0.ptr) rfl (fun _ _ hj => (c.ib 0 rfl).cell hj),
    Ob.c fun c => ⟨_, _, (e_call1 rfl rfl Try.call41 (c.n 0 rfl)), refBare_c t.k t.ch t.ng t.rv.v t.rows t.mn t.mx t.lz t.kv.v rfl _ (hT.at (st30.ext.trans c.J.ext)).rows⟩,
    Ob.d fun c => r_move rfl (c.n 1 rfl),
    Ob.g 2 true rfl fun c hpc => r_move rfl (c.p e3),
    Ob.g 2 true rfl fun c hpc => r_eql rfl (c.m 3 rfl hpc) rfl,
    Ob.d fun c => r_and rfl (c.n 2 rfl) (fun h => c.m 4 rfl h),
    Ob.d fun c => r_assign rfl (c.n 5 rfl), trivial⟩ ?_
   intro a31 w31 τ31 st31 f31
   obtain ⟨e1, e3, e25, -⟩ := f31.ks [(1, _), (3, _), (25, _)] ⟨e1, e3, e25, trivial⟩
   have e2 : get a31 2 = (.bool ((bareF t.ch t.ng t.rows t.mn t.mx t.lz) && (decide ((t.kids.length : Int) = 0)))) := f31.v 6 rfl
   replace r0 := f31.ib 0 rfl
   clear f31
   show Code.wp _ _ _ a31 w31
   refine wp_ret ?_
   repeat (first | with_reducible refine then_ret ?_ | with_reducible refine block_ret ?_)
   refine ret1 (fn := Try.f36) rfl st31.defers e2 ?_
   exact ⟨congrArg _ (congrArg _ (by exact allF_here (k := k) q1 (by omega) (by unfold fieldsF; (repeat (first | rw [if_neg (by omega)] | rw [if_pos (by omega)])); (try rfl)))), st31.ext0⟩
 have hd11 := hc10; try simp only [decide_eq_false_iff_not] at hd11
 refine wp_seq ?_
 refine region_St (bf := [0, 1]) (sp := [det _ 92 _, det _ 90 _]) [ib r0] mixed st30 (by kernel_rfl) ⟨r0, trivial⟩
  ⟨Ob.d fun c => r_eql rfl (c.p e25) rfl,
  Ob.d fun c => r_assign rfl (c.n 0 rfl), trivial⟩ ?_
 intro a32 w32 τ32 st32 f32
 obtain ⟨e1, e3, e25, -⟩ := f32.ks [(1, _), (3, _), (25, _)] ⟨e1, e3, e25, trivial⟩
 have e90 : get a32 90 = (.bool (decide (t.k = 8))) := f32.v 1 rfl
 replace r0 := f32.ib 0 rfl
 clear f32
 show Code.wp _ _ _ a32 w32
 refine wp_cond_split (t := decide (t.k = 8)) e90 (fun hc12 => ?_) (fun hc12 => ?_)
 · have hd12 := hc12; try simp only [decide_eq_true_eq] at hd12
   refine wp_skip ?_
   show Code.wp _ _ _ a32 w32
   refine wp_cond_true (e90.trans (congrArg _ hc12)) ?_
   refine wp_seq ?_
   refine region_St (bf := [0, 1, 3, 7, 15, 31, 63]) (sp := [det _ 96 _, det _ 97 _, det _ 98 _, gdet _ 99 _ _, gdet _ 100 _ _, det _ 101 _, det _ 2 _]) [ib r0] mixed st32 (by kernel_rfl) ⟨r0, trivial⟩
    ⟨Ob.d fun c => r_loadN (vs := [(.int .i64 (t.k)), (.string (t.ch)), (.bool (t.ng)), t.rv.v, (.int .i64 (t.mn)), (.int .i64 (t.mx)), (.bool (t.lz)), t.kv.v]) rfl Try.isAgg25 Try.sizeOf25 ((c.p e1).trans r0.ptr) rfl (fun _ _ hj => (c.ib 0 rfl).cell hj),
    Ob.c fun c => ⟨_, _, (e_call1 rfl rfl Try.call41 (c.n 0 rfl)), refBare_c t.k t.ch t.ng t.rv.v t.rows t.mn t.mx t.lz t.kv.v rfl _ (hT.at (st32.ext.trans c.J.ext)).rows⟩,
    Ob.d fun c => r_move rfl (c.n 1 rfl),
    Ob.g 2 true rfl fun c hpc => r_move rfl (c.p e3),
    Ob.g 2 true rfl fun c hpc => r_eql rfl (c.m 3 rfl hpc) rfl,
    Ob.d fun c => r_and rfl (c.n 2 rfl) (fun h => c.m 4 rfl h),
    Ob.d fun c => r_assign rfl (c.n 5 rfl), trivial⟩ ?_
   intro a33 w33 τ33 st33 f33
   obtain ⟨e1, e3, e25, -⟩ := f33.ks [(1, _), (3, _), (25, _)] ⟨e1, e3, e25, trivial⟩
   have e2 : get a33 2 = (.bool ((bareF t.ch t.ng t.rows t.mn t.mx t.lz) && (decide ((t.kids.length : Int) = 0)))) := f33.v 6 rfl
   replace r0 := f33.ib 0 rfl
   clear f33
   show Code.wp _ _ _ a33 w33
   refine wp_ret ?_
   repeat (first | with_reducible refine then_ret ?_ | with_reducible refine block_ret ?_)
   refine ret1 (fn := Try.f36) rfl st33.defers e2 ?_
   exact ⟨congrArg _ (congrArg _ (by exact allF_here (k := k) q1 (by omega) (by unfold fieldsF; (repeat (first | rw [if_neg (by omega)] | rw [if_pos (by omega)])); (try rfl)))), st33.ext0⟩
 have hd13 := hc12; try simp only [decide_eq_false_iff_not] at hd13
 refine wp_seq ?_
 refine region_St (bf := [0, 1]) (sp := [det _ 93 _, det _ 90 _]) [ib r0] mixed st32 (by kernel_rfl) ⟨r0, trivial⟩
  ⟨Ob.d fun c => r_eql rfl (c.p e25) rfl,
  Ob.d fun c => r_assign rfl (c.n 0 rfl), trivial⟩ ?_
 intro a34 w34 τ34 st34 f34
 obtain ⟨e1, e3, e25, -⟩ := f34.ks [(1, _), (3, _), (25, _)] ⟨e1, e3, e25, trivial⟩
 have e90 : get a34 90 = (.bool (decide (t.k = 9))) := f34.v 1 rfl
 replace r0 := f34.ib 0 rfl
 clear f34
 show Code.wp _ _ _ a34 w34
 refine wp_cond_split (t := decide (t.k = 9)) e90 (fun hc14 => ?_) (fun hc14 => ?_)
 · have hd14 := hc14; try simp only [decide_eq_true_eq] at hd14
   refine wp_skip ?_
   show Code.wp _ _ _ a34 w34
   refine wp_cond_true (e90.trans (congrArg _ hc14)) ?_
   refine wp_seq ?_
   refine region_St (bf := [0, 1, 3, 7, 15, 31, 63]) (sp := [det _ 96 _, det _ 97 _, det _ 98 _, gdet _ 99 _ _, gdet _ 100 _ _, det _ 101 _, det _ 2 _]) [ib r0] mixed st34 (by kernel_rfl) ⟨r0, trivial⟩
    ⟨Ob.d fun c => r_loadN (vs := [(.int .i64 (t.k)), (.string (t.ch)), (.bool (t.ng)), t.rv.v, (.int .i64 (t.mn)), (.int .i64 (t.mx)), (.bool (t.lz)), t.kv.v]) rfl Try.isAgg25 Try.sizeOf25 ((c.p e1).trans r0.ptr) rfl (fun _ _ hj => (c.ib 0 rfl).cell hj),
    Ob.c fun c => ⟨_, _, (e_call1 rfl rfl Try.call41 (c.n 0 rfl)), refBare_c t.k t.ch t.ng t.rv.v t.rows t.mn t.mx t.lz t.kv.v rfl _ (hT.at (st34.ext.trans c.J.ext)).rows⟩,
    Ob.d fun c => r_move rfl (c.n 1 rfl),
    Ob.g 2 true rfl fun c hpc => r_move rfl (c.p e3),
    Ob.g 2 true rfl fun c hpc => r_eql rfl (c.m 3 rfl hpc) rfl,
    Ob.d fun c => r_and rfl (c.n 2 rfl) (fun h => c.m 4 rfl h),
    Ob.d fun c => r_assign rfl (c.n 5 rfl), trivial⟩ ?_
   intro a35 w35 τ35 st35 f35
   obtain ⟨e1, e3, e25, -⟩ := f35.ks [(1, _), (3, _), (25, _)] ⟨e1, e3, e25, trivial⟩
   have e2 : get a35 2 = (.bool ((bareF t.ch t.ng t.rows t.mn t.mx t.lz) && (decide ((t.kids.length : Int) = 0)))) := f35.v 6 rfl
   replace r0 := f35.ib 0 rfl
   clear f35
   show Code.wp _ _ _ a35 w35
   refine wp_ret ?_
   repeat (first | with_reducible refine then_ret ?_ | with_reducible refine block_ret ?_)
   refine ret1 (fn := Try.f36) rfl st35.defers e2 ?_
   exact ⟨congrArg _ (congrArg _ (by exact allF_here (k := k) q1 (by omega) (by unfold fieldsF; (repeat (first | rw [if_neg (by omega)] | rw [if_pos (by omega)])); (try rfl)))), st35.ext0⟩
 have hd15 := hc14; try simp only [decide_eq_false_iff_not] at hd15
 refine wp_seq ?_
 refine region_St (bf := [0, 1]) (sp := [det _ 94 _, det _ 90 _]) [ib r0] mixed st34 (by kernel_rfl) ⟨r0, trivial⟩
  ⟨Ob.d fun c => r_eql rfl (c.p e25) rfl,
  Ob.d fun c => r_assign rfl (c.n 0 rfl), trivial⟩ ?_
 intro a36 w36 τ36 st36 f36
 obtain ⟨e1, e3, e25, -⟩ := f36.ks [(1, _), (3, _), (25, _)] ⟨e1, e3, e25, trivial⟩
 have e90 : get a36 90 = (.bool (decide (t.k = 10))) := f36.v 1 rfl
 replace r0 := f36.ib 0 rfl
 clear f36
 show Code.wp _ _ _ a36 w36
 refine wp_cond_split (t := decide (t.k = 10)) e90 (fun hc16 => ?_) (fun hc16 => ?_)
 · have hd16 := hc16; try simp only [decide_eq_true_eq] at hd16
   refine wp_skip ?_
   show Code.wp _ _ _ a36 w36
   refine wp_cond_true (e90.trans (congrArg _ hc16)) ?_
   refine wp_seq ?_
   refine region_St (bf := [0, 1, 3, 7, 15, 31, 63]) (sp := [det _ 96 _, det _ 97 _, det _ 98 _, gdet _ 99 _ _, gdet _ 100 _ _, det _ 101 _, det _ 2 _]) [ib r0] mixed st36 (by kernel_rfl) ⟨r0, trivial⟩
    ⟨Ob.d fun c => r_loadN (vs := [(.int .i64 (t.k)), (.string (t.ch)), (.bool (t.ng)), t.rv.v, (.int .i64 (t.mn)), (.int .i64 (t.mx)), (.bool (t.lz)), t.kv.v]) rfl Try.isAgg25 Try.sizeOf25 ((c.p e1).trans r0.ptr) rfl (fun _ _ hj => (c.ib 0 rfl).cell hj),
    Ob.c fun c => ⟨_, _, (e_call1 rfl rfl Try.call41 (c.n 0 rfl)), refBare_c t.k t.ch t.ng t.rv.v t.rows t.mn t.mx t.lz t.kv.v rfl _ (hT.at (st36.ext.trans c.J.ext)).rows⟩,
    Ob.d fun c => r_move rfl (c.n 1 rfl),
    Ob.g 2 true rfl fun c hpc => r_move rfl (c.p e3),
    Ob.g 2 true rfl fun c hpc => r_eql rfl (c.m 3 rfl hpc) rfl,
    Ob.d fun c => r_and rfl (c.n 2 rfl) (fun h => c.m 4 rfl h),
    Ob.d fun c => r_assign rfl (c.n 5 rfl), trivial⟩ ?_
   intro a37 w37 τ37 st37 f37
   obtain ⟨e1, e3, e25, -⟩ := f37.ks [(1, _), (3, _), (25, _)] ⟨e1, e3, e25, trivial⟩
   have e2 : get a37 2 = (.bool ((bareF t.ch t.ng t.rows t.mn t.mx t.lz) && (decide ((t.kids.length : Int) = 0)))) := f37.v 6 rfl
   replace r0 := f37.ib 0 rfl
   clear f37
   show Code.wp _ _ _ a37 w37
   refine wp_ret ?_
   repeat (first | with_reducible refine then_ret ?_ | with_reducible refine block_ret ?_)
   refine ret1 (fn := Try.f36) rfl st37.defers e2 ?_
   exact ⟨congrArg _ (congrArg _ (by exact allF_here (k := k) q1 (by omega) (by unfold fieldsF; (repeat (first | rw [if_neg (by omega)] | rw [if_pos (by omega)])); (try rfl)))), st37.ext0⟩
 have hd17 := hc16; try simp only [decide_eq_false_iff_not] at hd17
 refine region_St (bf := [0, 1]) (sp := [det _ 95 _, det _ 90 _]) [ib r0] mixed st36 (by kernel_rfl) ⟨r0, trivial⟩
  ⟨Ob.d fun c => r_eql rfl (c.p e25) rfl,
  Ob.d fun c => r_assign rfl (c.n 0 rfl), trivial⟩ ?_
 intro a38 w38 τ38 st38 f38
 obtain ⟨e1, e3, e25, -⟩ := f38.ks [(1, _), (3, _), (25, _)] ⟨e1, e3, e25, trivial⟩
 have e90 : get a38 90 = (.bool (decide (t.k = 11))) := f38.v 1 rfl
 replace r0 := f38.ib 0 rfl
 clear f38
 show Code.wp _ _ _ a38 w38
 refine wp_cond_split (t := decide (t.k = 11)) e90 (fun hc18 => ?_) (fun hc18 => ?_)
 · have hd18 := hc18; try simp only [decide_eq_true_eq] at hd18
   refine wp_seq ?_
   refine region_St (bf := [0, 1, 3, 7, 15, 31, 63]) (sp := [det _ 96 _, det _ 97 _, det _ 98 _, gdet _ 99 _ _, gdet _ 100 _ _, det _ 101 _, det _ 2 _]) [ib r0] mixed st38 (by kernel_rfl) ⟨r0, trivial⟩
    ⟨Ob.d fun c => r_loadN (vs := [(.int .i64 (t.k)), (.string (t.ch)), (.bool (t.ng)), t.rv.v, (.int .i64 (t.mn)), (.int .i64 (t.mx)), (.bool (t.lz)), t.kv.v]) rfl Try.isAgg25 Try.sizeOf25 ((c.p e1).trans r0.ptr) rfl (fun _ _ hj => (c.ib 0 rfl).cell hj),
    Ob.c fun c => ⟨_, _, (e_call1 rfl rfl Try.call41 (c.n 0 rfl)), refBare_c t.k t.ch t.ng t.rv.v t.rows t.mn t.mx t.lz t.kv.v rfl _ (hT.at (st38.ext.trans c.J.ext)).rows⟩,
    Ob.d fun c => r_move rfl (c.n 1 rfl),
    Ob.g 2 true rfl fun c hpc => r_move rfl (c.p e3),
    Ob.g 2 true rfl fun c hpc => r_eql rfl (c.m 3 rfl hpc) rfl,
    Ob.d fun c => r_and rfl (c.n 2 rfl) (fun h => c.m 4 rfl h),
    Ob.d fun c => r_assign rfl (c.n 5 rfl), trivial⟩ ?_
   intro a39 w39 τ39 st39 f39
   obtain ⟨e1, e3, e25, -⟩ := f39.ks [(1, _), (3, _), (25, _)] ⟨e1, e3, e25, trivial⟩
   have e2 : get a39 2 = (.bool ((bareF t.ch t.ng t.rows t.mn t.mx t.lz) && (decide ((t.kids.length : Int) = 0)))) := f39.v 6 rfl
   replace r0 := f39.ib 0 rfl
   clear f39
   show Code.wp _ _ _ a39 w39
   refine wp_ret ?_
   repeat (first | with_reducible refine then_ret ?_ | with_reducible refine block_ret ?_)
   refine ret1 (fn := Try.f36) rfl st39.defers e2 ?_
   exact ⟨congrArg _ (congrArg _ (by exact allF_here (k := k) q1 (by omega) (by unfold fieldsF; (repeat (first | rw [if_neg (by omega)] | rw [if_pos (by omega)])); (try rfl)))), st39.ext0⟩
 have hd18 := hc18; try simp only [decide_eq_false_iff_not] at hd18
 refine wp_seq ?_
 refine region_St (bf := [0, 1]) (sp := [det _ 103 _, det _ 102 _]) [ib r0] mixed st38 (by kernel_rfl) ⟨r0, trivial⟩
  ⟨Ob.d fun c => r_eql rfl (c.p e25) rfl,
  Ob.d fun c => r_assign rfl (c.n 0 rfl), trivial⟩ ?_
 intro a40 w40 τ40 st40 f40
 obtain ⟨e1, e3, e25, -⟩ := f40.ks [(1, _), (3, _), (25, _)] ⟨e1, e3, e25, trivial⟩
 have e102 : get a40 102 = (.bool (decide (t.k = 4))) := f40.v 1 rfl
 replace r0 := f40.ib 0 rfl
 clear f40
 show Code.wp _ _ _ a40 w40
 refine wp_cond_split (t := decide (t.k = 4)) e102 (fun hc19 => ?_) (fun hc19 => ?_)
 · try simp only [decide_eq_true_eq] at hc19
   refine wp_seq ?_
   refine region_St (bf := [0, 1, 3]) (sp := [det _ 104 _, det _ 105 _, det _ 8 _]) [ib r0] mixed st40 (by kernel_rfl) ⟨r0, trivial⟩
    ⟨Ob.d fun c => r_fieldAddr rfl Try.underlying25 rfl rfl Try.sizeOf22 ((c.p e1).trans r0.ptr),
    Ob.d fun c => r_load1 rfl Try.isAgg22 (c.n 0 rfl) ((c.ib 0 rfl).cell (j := 3) rfl),
    Ob.d fun c => r_assign rfl (c.n 1 rfl), trivial⟩ ?_
   intro a41 w41 τ41 st41 f41
   obtain ⟨e1, e3, e25, -⟩ := f41.ks [(1, _), (3, _), (25, _)] ⟨e1, e3, e25, trivial⟩
   have e8 : get a41 8 = t.rv.v := f41.v 2 rfl
   replace r0 := f41.ib 0 rfl
   clear f41
   show Code.wp _ _ _ a41 w41
   refine wp_seq ?_
   refine region_St (bf := [0, 1]) (sp := [det _ 106 _, box _ _ 0 1 [(.int .i64 (t.k)), (.string (t.ch)), (.bool (t.ng)), (.slice none 0 0), (.int .i64 (t.mn)), (.int .i64 (t.mx)), (.bool (t.lz)), t.kv.v]]) [ib r0] mixed st41 (by kernel_rfl) ⟨r0, trivial⟩
    ⟨Ob.d fun c => r_fieldAddr rfl Try.underlying25 rfl rfl Try.sizeOf22 ((c.p e1).trans r0.ptr),
    Ob.storeBox (off := 3) (v := (.slice none 0 0)) rfl rfl rfl rfl Try.sizeOf22 (Nat.le_of_ble_eq_true rfl) (by simp [Value.cells, Value.oneCell', Sv.v]) rfl (fun _ _ _ _ c => ⟨c.bp 0 rfl e1, c.ad (c.n 0 rfl) e1 rfl, rfl⟩), trivial⟩ ?_
   intro a42 w42 τ42 st42 f42
   obtain ⟨e1, e3, e8, e25, -⟩ := f42.ks [(1, _), (3, _), (8, _), (25, _)] ⟨e1, e3, e8, e25, trivial⟩
   replace r0 : boxR 25 [(.int .i64 (t.k)), (.string (t.ch)), (.bool (t.ng)), (.slice none 0 0), (.int .i64 (t.mn)), (.int .i64 (t.mx)), (.bool (t.lz)), t.kv.v] (τ42 0) b1x1 w42 := f42.rb 1 e1 rfl
   clear f42
   show Code.wp _ _ _ a42 w42
   refine wp_seq ?_
   refine region_St (bf := [0, 1]) (sp := [det _ 107 _, box _ _ 0 1 [(.int .i64 (t.k)), (.string (t.ch)), (.bool (false)), (.slice none 0 0), (.int .i64 (t.mn)), (.int .i64 (t.mx)), (.bool (t.lz)), t.kv.v]]) [ib r0] mixed st42 (by kernel_rfl) ⟨r0, trivial⟩
    ⟨Ob.d fun c => r_fieldAddr rfl Try.underlying25 rfl rfl Try.sizeOf4 ((c.p e1).trans r0.ptr),
    Ob.storeBox (off := 2) (v := (.bool (false))) rfl rfl rfl rfl Try.sizeOf4 (Nat.le_of_ble_eq_true rfl) (by simp [Value.cells, Value.oneCell', Sv.v]) rfl (fun _ _ _ _ c => ⟨c.bp 0 rfl e1, c.ad (c.n 0 rfl) e1 rfl, rfl⟩), trivial⟩ ?_
   intro a43 w43 τ43 st43 f43
   obtain ⟨e1, e3, e8, e25, -⟩ := f43.ks [(1, _), (3, _), (8, _), (25, _)] ⟨e1, e3, e8, e25, trivial⟩
   replace r0 : boxR 25 [(.int .i64 (t.k)), (.string (t.ch)), (.bool (false)), (.slice none 0 0), (.int .i64 (t.mn)), (.int .i64 (t.mx)), (.bool (t.lz)), t.kv.v] (τ43 0) b1x1 w43 := f43.rb 1 e1 rfl
   clear f43
   show Code.wp _ _ _ a43 w43
   refine wp_seq ?_
   refine region_St (bf := [0, 1, 3, 7, 15, 31, 63, 127, 255, 511, 1023]) (sp := [det _ 108 _, det _ 109 _, det _ 110 _, gdet _ 111 _ _, gdet _ 112 _ _, det _ 113 _, det _ 114 _, gdet _ 115 _ _, gdet _ 116 _ _, det _ 117 _, det _ 2 _]) [ib r0] mixed st43 (by kernel_rfl) ⟨r0, trivial⟩
    ⟨Ob.d fun c => r_loadN (vs := [(.int .i64 (t.k)), (.string (t.ch)), (.bool (false)), (.slice none 0 0), (.int .i64 (t.mn)), (.int .i64 (t.mx)), (.bool (t.lz)), t.kv.v]) rfl Try.isAgg25 Try.sizeOf25 ((c.p e1).trans r0.ptr) rfl (fun _ _ hj => (c.ib 0 rfl).cell hj),
    Ob.c fun c => ⟨_, _, (e_call1 rfl rfl Try.call41 (c.n 0 rfl)), refBare_c t.k t.ch false (.slice none 0 0) ([]) t.mn t.mx t.lz t.kv.v rfl _ (SlT.nil _ _)⟩,
    Ob.d fun c => r_move rfl (c.n 1 rfl),
    Ob.g 2 true rfl fun c hpc => r_move rfl (c.p e3),
    Ob.g 2 true rfl fun c hpc => r_eql rfl (c.m 3 rfl hpc) rfl,
    Ob.d fun c => r_and rfl (c.n 2 rfl) (fun h => c.m 4 rfl h),
    Ob.d fun c => r_move rfl (c.n 5 rfl),
    Ob.g 6 true rfl fun c hpc => r_move rfl (c.p e8),
    Ob.gc 6 true rfl fun c hpc => ⟨_, _, (e_call1 rfl rfl Try.call43 (c.m 7 rfl hpc)), refMayR_c t.rv.v t.rows _ (hT.at (st43.ext.trans c.J.ext)).rows (by first | assumption | (unfold Small; decide)) (by have hq0 := hpc; (try simp only [Bool.and_eq_true, decide_eq_true_eq] at hq0); omega)⟩,
    Ob.d fun c => r_and rfl (c.n 6 rfl) (fun h => c.m 8 rfl h),
    Ob.d fun c => r_assign rfl (c.n 9 rfl), trivial⟩ ?_
   intro a44 w44 τ44 st44 f44
   obtain ⟨e1, e3, e25, -⟩ := f44.ks [(1, _), (3, _), (25, _)] ⟨e1, e3, e25, trivial⟩
   have e2 : get a44 2 = (.bool (((bareF t.ch false ([]) t.mn t.mx t.lz) && (decide ((t.kids.length : Int) = 0))) && (mayRow t.rows))) := f44.v 10 rfl
   replace r0 := f44.ib 0 rfl
   clear f44
   show Code.wp _ _ _ a44 w44
   refine wp_ret ?_
   repeat (first | with_reducible refine then_ret ?_ | with_reducible refine block_ret ?_)
   refine ret1 (fn := Try.f36) rfl st44.defers e2 ?_
   exact ⟨congrArg _ (congrArg _ (by exact allF_here (k := k) q1 (by omega) (by unfold fieldsF; (repeat (first | rw [if_neg (by omega)] | rw [if_pos (by omega)])); (try rfl)))), st44.ext0⟩
 try simp only [decide_eq_false_iff_not] at hc19
 refine wp_seq ?_
 refine wp_seq ?_
 refine region_St (bf := [0, 1]) (sp := [det _ 119 _, det _ 118 _]) [ib r0] mixed st40 (by kernel_rfl) ⟨r0, trivial⟩
  ⟨Ob.d fun c => r_eql rfl (c.p e25) rfl,
  Ob.d fun c => r_assign rfl (c.n 0 rfl), trivial⟩ ?_
 intro a45 w45 τ45 st45 f45
 obtain ⟨e1, e3, e25, -⟩ := f45.ks [(1, _), (3, _), (25, _)] ⟨e1, e3, e25, trivial⟩
 have e118 : get a45 118 = (.bool (decide (t.k = 5))) := f45.v 1 rfl
 replace r0 := f45.ib 0 rfl
 clear f45
 show Code.wp _ _ _ a45 w45
 refine wp_cond_split (t := decide (t.k = 5)) e118 (fun hc20 => ?_) (fun hc20 => ?_)
 · have hd20 := hc20; try simp only [decide_eq_true_eq] at hd20
   refine wp_skip ?_
   show Code.wp _ _ _ a45 w45
   refine wp_cond_true (e118.trans (congrArg _ hc20)) ?_
   refine wp_seq ?_
   refine region_St (bf := [0, 1, 3, 7, 15, 31, 63]) (sp := [det _ 121 _, det _ 122 _, det _ 123 _, gdet _ 124 _ _, gdet _ 125 _ _, det _ 126 _, det _ 2 _]) [ib r0] mixed st45 (by kernel_rfl) ⟨r0, trivial⟩
    ⟨Ob.d fun c => r_loadN (vs := [(.int .i64 (t.k)), (.string (t.ch)), (.bool (t.ng)), t.rv.v, (.int .i64 (t.mn)), (.int .i64 (t.mx)), (.bool (t.lz)), t.kv.v]) rfl Try.isAgg25 Try.sizeOf25 ((c.p e1).trans r0.ptr) rfl (fun _ _ hj => (c.ib 0 rfl).cell hj),
    Ob.c fun c => ⟨_, _, (e_call1 rfl rfl Try.call41 (c.n 0 rfl)), refBare_c t.k t.ch t.ng t.rv.v t.rows t.mn t.mx t.lz t.kv.v rfl _ (hT.at (st45.ext.trans c.J.ext)).rows⟩,
    Ob.d fun c => r_move rfl (c.n 1 rfl),
    Ob.g 2 true rfl fun c hpc => r_move rfl (c.p e3),
    Ob.g 2 true rfl fun c hpc => r_eql rfl (c.m 3 rfl hpc) rfl,
    Ob.d fun c => r_and rfl (c.n 2 rfl) (fun h => c.m 4 rfl h),
    Ob.d fun c => r_assign rfl (c.n 5 rfl), trivial⟩ ?_
   intro a46 w46 τ46 st46 f46
   obtain ⟨e1, e25, -⟩ := f46.ks [(1, _), (25, _)] ⟨e1, e25, trivial⟩
   have e2 : get a46 2 = (.bool ((bareF t.ch t.ng t.rows t.mn t.mx t.lz) && (decide ((t.kids.length : Int) = 1)))) := f46.v 6 rfl
   replace r0 := f46.ib 0 rfl
   clear f46
   show Code.wp _ _ _ a46 w46
   refine wp_ret ?_
   repeat (first | with_reducible refine then_ret ?_ | with_reducible refine block_ret ?_)
   refine ret1 (fn := Try.f36) rfl st46.defers e2 ?_
   exact ⟨congrArg _ (congrArg _ (by exact allF_here (k := k) q1 (by omega) (by unfold fieldsF; (repeat (first | rw [if_neg (by omega)] | rw [if_pos (by omega)])); (try rfl)))), st46.ext0⟩
 have hd21 := hc20; try simp only [decide_eq_false_iff_not] at hd21
 refine region_St (bf := [0, 1]) (sp := [det _ 120 _, det _ 118 _]) [ib r0] mixed st45 (by kernel_rfl) ⟨r0, trivial⟩
  ⟨Ob.d fun c => r_eql rfl (c.p e25) rfl,
  Ob.d fun c => r_assign rfl (c.n 0 rfl), trivial⟩ ?_
 intro a47 w47 τ47 st47 f47
 obtain ⟨e1, e3, e25, -⟩ := f47.ks [(1, _), (3, _), (25, _)] ⟨e1, e3, e25, trivial⟩
 have e118 : get a47 118 = (.bool (decide (t.k = 6))) := f47.v 1 rfl
 replace r0 := f47.ib 0 rfl
 clear f47
 show Code.wp _ _ _ a47 w47
 refine wp_cond_split (t := decide (t.k = 6)) e118 (fun hc22 => ?_) (fun hc22 => ?_)
 · have hd22 := hc22; try simp only [decide_eq_true_eq] at hd22
   refine wp_seq ?_
   refine region_St (bf := [0, 1, 3, 7, 15, 31, 63]) (sp := [det _ 121 _, det _ 122 _, det _ 123 _, gdet _ 124 _ _, gdet _ 125 _ _, det _ 126 _, det _ 2 _]) [ib r0] mixed st47 (by kernel_rfl) ⟨r0, trivial⟩
    ⟨Ob.d fun c => r_loadN (vs := [(.int .i64 (t.k)), (.string (t.ch)), (.bool (t.ng)), t.rv.v, (.int .i64 (t.mn)), (.int .i64 (t.mx)), (.bool (t.lz)), t.kv.v]) rfl Try.isAgg25 Try.sizeOf25 ((c.p e1).trans r0.ptr) rfl (fun _ _ hj => (c.ib 0 rfl).cell hj),
    Ob.c fun c => ⟨_, _, (e_call1 rfl rfl Try.call41 (c.n 0 rfl)), refBare_c t.k t.ch t.ng t.rv.v t.rows t.mn t.mx t.lz t.kv.v rfl _ (hT.at (st47.ext.trans c.J.ext)).rows⟩,
    Ob.d fun c => r_move rfl (c.n 1 rfl),
    Ob.g 2 true rfl fun c hpc => r_move rfl (c.p e3),
    Ob.g 2 true rfl fun c hpc => r_eql rfl (c.m 3 rfl hpc) rfl,
    Ob.d fun c => r_and rfl (c.n 2 rfl) (fun h => c.m 4 rfl h),
    Ob.d fun c => r_assign rfl (c.n 5 rfl), trivial⟩ ?_
   intro a48 w48 τ48 st48 f48
   obtain ⟨e1, e25, -⟩ := f48.ks [(1, _), (25, _)] ⟨e1, e25, trivial⟩
   have e2 : get a48 2 = (.bool ((bareF t.ch t.ng t.rows t.mn t.mx t.lz) && (decide ((t.kids.length : Int) = 1)))) := f48.v 6 rfl
   replace r0 := f48.ib 0 rfl
   clear f48
   show Code.wp _ _ _ a48 w48
   refine wp_ret ?_
   repeat (first | with_reducible refine then_ret ?_ | with_reducible refine block_ret ?_)
   refine ret1 (fn := Try.f36) rfl st48.defers e2 ?_
   exact ⟨congrArg _ (congrArg _ (by exact allF_here (k := k) q1 (by omega) (by unfold fieldsF; (repeat (first | rw [if_neg (by omega)] | rw [if_pos (by omega)])); (try rfl)))), st48.ext0⟩
 have hd22 := hc22; try simp only [decide_eq_false_iff_not] at hd22
 refine wp_seq ?_
 refine region_St (bf := [0, 1]) (sp := [det _ 128 _, det _ 127 _]) [ib r0] mixed st47 (by kernel_rfl) ⟨r0, trivial⟩
  ⟨Ob.d fun c => r_eql rfl (c.p e25) rfl,
  Ob.d fun c => r_assign rfl (c.n 0 rfl), trivial⟩ ?_
 intro a49 w49 τ49 st49 f49
 obtain ⟨e1, -⟩ := f49.ks [(1, _)] ⟨e1, trivial⟩
 have e127 : get a49 127 = (.bool (decide (t.k = 7))) := f49.v 1 rfl
 replace r0 := f49.ib 0 rfl
 clear f49
 show Code.wp _ _ _ a49 w49
 refine wp_cond_split (t := decide (t.k = 7)) e127 (fun hc23 => ?_) (fun hc23 => ?_)
 · try simp only [decide_eq_true_eq] at hc23
   refine wp_seq ?_
   refine region_St (bf := [0, 1, 3]) (sp := [det _ 129 _, det _ 130 _, det _ 2 _]) [ib r0] mixed st49 (by kernel_rfl) ⟨r0, trivial⟩
    ⟨Ob.d fun c => r_loadN (vs := [(.int .i64 (t.k)), (.string (t.ch)), (.bool (t.ng)), t.rv.v, (.int .i64 (t.mn)), (.int .i64 (t.mx)), (.bool (t.lz)), t.kv.v]) rfl Try.isAgg25 Try.sizeOf25 ((c.p e1).trans r0.ptr) rfl (fun _ _ hj => (c.ib 0 rfl).cell hj),
    Ob.c fun c => ⟨_, _, (e_call1 rfl rfl Try.call44 (c.n 0 rfl)), refRepeat_c t _ (hT.at (st49.ext.trans c.J.ext)) (by omega)⟩,
    Ob.d fun c => r_assign rfl (c.n 1 rfl), trivial⟩ ?_
   intro a50 w50 τ50 st50 f50
   have e2 : get a50 2 = (.bool (repR t)) := f50.v 2 rfl
   clear f50
   show Code.wp _ _ _ a50 w50
   refine wp_ret ?_
   repeat (first | with_reducible refine then_ret ?_ | with_reducible refine block_ret ?_)
   refine ret1 (fn := Try.f36) rfl st50.defers e2 ?_
   exact ⟨congrArg _ (congrArg _ (by exact allF_here (k := k) q1 (by omega) (f_rep (by omega)))), st50.ext0⟩
 try simp only [decide_eq_false_iff_not] at hc23
 refine wp_skip ?_
 show _
 show Code.wp _ _ _ a49 w49
 refine wp_seq ?_
 refine region_St (bf := [0]) (sp := [det _ 2 _]) [ib r0] mixed st49 (by kernel_rfl) ⟨r0, trivial⟩
  ⟨Ob.d fun c => r_assign rfl rfl, trivial⟩ ?_
 intro a51 w51 τ51 st51 f51
 have e2 : get a51 2 = (.bool (false)) := f51.v 0 rfl
 clear f51
 show Code.wp _ _ _ a51 w51
 refine wp_ret ?_
 repeat (first | with_reducible refine then_ret ?_ | with_reducible refine block_ret ?_)
 refine ret1 (fn := Try.f36) rfl st51.defers e2 ?_
 exact ⟨congrArg _ (congrArg _ (by first | exact allF_no (k := k) (by omega) (by assumption) | exact allF_here (k := k) q_1 (by omega) (f_seq_bad (k := j) (by omega) (by omega) (by assumption)) | exact allF_here (k := k) q_1 (by omega) (f_alt_bad (k := j) (by omega) (by omega) (by assumption)) | exact allF_here (k := k) q1 (by omega) (by unfold fieldsF; (repeat (first | rw [if_neg (by omega)] | rw [if_pos (by omega)])); (try rfl)))), st51.ext0⟩

theorem refAll_c (t : Tr) : ∀ (w : World), TrS w t → wtF t ≤ 1000000 → Calls Try.prog 36 #[t.v] w (fun e w' => e = .returned (.bool (allF t)) ∧ Ext none' w w') := Tr.ind (P := fun t => ∀ (w : World), TrS w t → wtF t ≤ 1000000 → Calls Try.prog 36 #[t.v] w (fun e w' => e = .returned (.bool (allF t)) ∧ Ext none' w w')) refAll_step t

set_option maxRecDepth 100000 in
theorem refMay_c (t : Tr) (w : World) (hT : TrS w t) (hP : wtF t ≤ 1000000) : Calls Try.prog 24 #[(.agg #[(.int .i64 (t.k)), (.string (t.ch)), (.bool (t.ng)), t.rv.v, (.int .i64 (t.mn)), (.int .i64 (t.mx)), (.bool (t.lz)), t.kv.v])] w (fun e w' => e = .returned (.bool ((decide (partsF t ≤ 512) && decide (deepF t ≤ 16)) && allF t)) ∧ Ext none' w w') := by
 refine enter (n := 15) Try.func24 rfl rfl (Nat.le_of_ble_eq_true rfl) ?_
 intro a0 τ0 ha st0
 have e0 : get a0 0 = (.agg #[(.int .i64 (t.k)), (.string (t.ch)), (.bool (t.ng)), t.rv.v, (.int .i64 (t.mn)), (.int .i64 (t.mx)), (.bool (t.lz)), t.kv.v]) := ha 0 _ rfl
 clear ha
 have hwt := wtF_bound t
 refine wp_seq ?_
 refine region_St (bf := [0, 0]) (sp := [box _ _ 0 1 [(.int .i64 (t.k)), (.string (t.ch)), (.bool (t.ng)), t.rv.v, (.int .i64 (t.mn)), (.int .i64 (t.mx)), (.bool (t.lz)), t.kv.v], det _ 2 _]) [] mixed st0 (by kernel_rfl) trivial
  ⟨Ob.box (v := (.agg #[(.int .i64 (t.k)), (.string (t.ch)), (.bool (t.ng)), t.rv.v, (.int .i64 (t.mn)), (.int .i64 (t.mx)), (.bool (t.lz)), t.kv.v])) rfl rfl rfl rfl rfl (fun _ _ _ _ c => (c.p e0)),
  Ob.d fun c => r_assign rfl rfl, trivial⟩ ?_
 intro a1 w1 τ1 st1 f1
 obtain ⟨b1x1, e1⟩ : ∃ b, get a1 1 = b := ⟨_, rfl⟩
 have e2 : get a1 2 = (.bool (false)) := f1.v 1 rfl
 have r0 : boxR 25 [(.int .i64 (t.k)), (.string (t.ch)), (.bool (t.ng)), t.rv.v, (.int .i64 (t.mn)), (.int .i64 (t.mx)), (.bool (t.lz)), t.kv.v] (τ1 0) b1x1 w1 := f1.rb 0 e1 rfl
 clear f1
 show Code.wp _ _ _ a1 w1
 refine wp_seq ?_
 refine region_St (bf := [0, 1, 3, 7, 15, 31, 63, 127, 255, 511, 1023, 2047, 4095]) (sp := [det _ 3 _, det _ 4 _, det _ 5 _, det _ 6 _, gdet _ 7 _ _, gdet _ 8 _ _, gdet _ 9 _ _, det _ 10 _, det _ 11 _, gdet _ 12 _ _, gdet _ 13 _ _, det _ 14 _, det _ 2 _]) [ib r0] mixed st1 (by kernel_rfl) ⟨r0, trivial⟩
  ⟨Ob.d fun c => r_loadN (vs := [(.int .i64 (t.k)), (.string (t.ch)), (.bool (t.ng)), t.rv.v, (.int .i64 (t.mn)), (.int .i64 (t.mx)), (.bool (t.lz)), t.kv.v]) rfl Try.isAgg25 Try.sizeOf25 ((c.p e1).trans r0.ptr) rfl (fun _ _ hj => (c.ib 0 rfl).cell hj),
  Ob.c fun c => ⟨_, _, (e_call1 rfl rfl Try.call25 (c.n 0 rfl)), refParts_c t _ (hT.at (st1.ext.trans c.J.ext)) (by omega)⟩,
  Ob.d fun c => r_leq rfl (c.n 1 rfl) rfl,
  Ob.d fun c => r_move rfl (c.n 2 rfl),
  Ob.g 3 true rfl fun c hpc => r_loadN (vs := [(.int .i64 (t.k)), (.string (t.ch)), (.bool (t.ng)), t.rv.v, (.int .i64 (t.mn)), (.int .i64 (t.mx)), (.bool (t.lz)), t.kv.v]) rfl Try.isAgg25 Try.sizeOf25 ((c.p e1).trans r0.ptr) rfl (fun _ _ hj => (c.ib 0 rfl).cell hj),
  Ob.gc 3 true rfl fun c hpc => ⟨_, _, (e_call1 rfl rfl Try.call28 (c.m 4 rfl hpc)), refDeep_c t _ (hT.at (st1.ext.trans c.J.ext)) (by have hq0 := bt hpc; omega)⟩,
  Ob.g 3 true rfl fun c hpc => r_leq rfl (c.m 5 rfl hpc) rfl,
  Ob.d fun c => r_and rfl (c.n 3 rfl) (fun h => c.m 6 rfl h),
  Ob.d fun c => r_move rfl (c.n 7 rfl),
  Ob.g 8 true rfl fun c hpc => r_loadN (vs := [(.int .i64 (t.k)), (.string (t.ch)), (.bool (t.ng)), t.rv.v, (.int .i64 (t.mn)), (.int .i64 (t.mx)), (.bool (t.lz)), t.kv.v]) rfl Try.isAgg25 Try.sizeOf25 ((c.p e1).trans r0.ptr) rfl (fun _ _ hj => (c.ib 0 rfl).cell hj),
  Ob.gc 8 true rfl fun c hpc => ⟨_, _, (e_call1 rfl rfl Try.call36 (c.m 9 rfl hpc)), refAll_c t _ (hT.at (st1.ext.trans c.J.ext)) (by have hq0 := hpc; (try simp only [Bool.and_eq_true, decide_eq_true_eq] at hq0); omega)⟩,
  Ob.d fun c => r_and rfl (c.n 8 rfl) (fun h => c.m 10 rfl h),
  Ob.d fun c => r_assign rfl (c.n 11 rfl), trivial⟩ ?_
 intro a2 w2 τ2 st2 f2
 have e2 : get a2 2 = (.bool (((decide (partsF t ≤ 512)) && (decide (deepF t ≤ 16))) && (allF t))) := f2.v 12 rfl
 clear f2
 show Code.wp _ _ _ a2 w2
 refine wp_ret ?_
 repeat (first | with_reducible refine then_ret ?_ | with_reducible refine block_ret ?_)
 refine ret1 (fn := Try.f24) rfl st2.defers e2 ?_
 exact ⟨rfl, st2.ext0⟩
end B
end Go.Proofs.Ytocmchlhbniloaa
