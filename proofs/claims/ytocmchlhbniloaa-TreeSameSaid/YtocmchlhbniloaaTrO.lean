/-
  Walks, printed by a program (gen.py): TrO.
-/
import Derived.Test.YtocmchlhbniloaaTrN
set_option linter.unusedSimpArgs false
set_option linter.unusedVariables false
namespace Go.Proofs.Ytocmchlhbniloaa
namespace B
open Go.RowKit
open Srt
def fitsL (l : List (Int → Int → Int × Bool)) (n d : Int) : Int × Bool := match l with
  | [] => (n, true)
  | g :: l => if (g n d).2 = true then fitsL l (g n d).1 d else ((g n d).1, false)
def depthF (t : Tr) (d : Int) : Int := if grpB t = true then d - 1 else d
def fitsF : Tr → Int → Int → Int × Bool := foldF fun t l n d => if ((decide (n < 1) || decide (depthF t d < 0)) || !fieldsF t) = true then (n, false) else fitsL l (n - 1) (depthF t d)
theorem fitsF_eq (t : Tr) (n d : Int) : fitsF t n d = if ((decide (n < 1) || decide (depthF t d < 0)) || !fieldsF t) = true then (n, false) else fitsL (t.kids.map fitsF) (n - 1) (depthF t d) :=
  congrFun (congrFun (foldF_eq (fun t l n d => if ((decide (n < 1) || decide (depthF t d < 0)) || !fieldsF t) = true then (n, false) else fitsL l (n - 1) (depthF t d)) t) n) d
theorem fitsF_range (t : Tr) : ∀ {n d : Int}, 0 ≤ n → 0 ≤ (fitsF t n d).1 ∧ (fitsF t n d).1 ≤ n := by
  induction t using Tr.ind with
  | h t ih =>
    intro n d hn
    have hK : ∀ ks : List Tr, (∀ k ∈ ks, k ∈ t.kids) → ∀ m d, 0 ≤ m → 0 ≤ (fitsL (ks.map fitsF) m d).1 ∧ (fitsL (ks.map fitsF) m d).1 ≤ m := by
      intro ks
      induction ks with
      | nil => intro _ m d h; exact ⟨h, Int.le_refl _⟩
      | cons k ks ih2 =>
        intro hm m d h
        have h1 := ih k (hm k (by simp)) (n := m) (d := d) h
        rw [List.map_cons, fitsL]
        split
        · have := ih2 (fun x hx => hm x (by simp [hx])) _ d h1.1
          omega
        · exact h1
    rw [fitsF_eq]
    split
    · exact ⟨hn, Int.le_refl _⟩
    · rename_i hc
      simp only [Bool.or_eq_true, decide_eq_true_eq, not_or] at hc
      have := hK t.kids (fun _ h => h) (n - 1) (depthF t d) (by omega)
      omega
theorem fits_no {t : Tr} {n d : Int} (h : ((decide (n < 1) || decide (depthF t d < 0)) || !fieldsF t) = true) : fitsF t n d = (n, false) := by rw [fitsF_eq, if_pos h]
theorem fits_bad {t : Tr} {n d m : Int} {k : Nat} (h : ((decide (n < 1) || decide (depthF t d < 0)) || !fieldsF t) = false) (hq : fitsL (t.kids.map fitsF) (n - 1) (depthF t d) = fitsL ((t.kids.drop k).map fitsF) m (depthF t d)) (hk : k < t.kids.length) (hb : (fitsF (nth t.kids (k : Int)) m (depthF t d)).2 = false) : fitsF t n d = ((fitsF (nth t.kids (k : Int)) m (depthF t d)).1, false) := by
  rw [fitsF_eq, if_neg (by rw [h]; decide), hq, drop_cons hk, List.map_cons, fitsL, if_neg (by rw [hb]; decide)]
theorem fits_end {t : Tr} {n d m : Int} {k : Nat} (h : ((decide (n < 1) || decide (depthF t d < 0)) || !fieldsF t) = false) (hq : fitsL (t.kids.map fitsF) (n - 1) (depthF t d) = fitsL ((t.kids.drop k).map fitsF) m (depthF t d)) (hk : t.kids.length ≤ k) : fitsF t n d = (m, true) := by
  rw [fitsF_eq, if_neg (by rw [h]; decide), hq, List.drop_of_length_le hk]; rfl
theorem fits_next {t : Tr} {n d m : Int} {k : Nat} (hq : fitsL (t.kids.map fitsF) (n - 1) (depthF t d) = fitsL ((t.kids.drop k).map fitsF) m (depthF t d)) (hk : k < t.kids.length) (hb : (fitsF (nth t.kids (k : Int)) m (depthF t d)).2 = true) : fitsL (t.kids.map fitsF) (n - 1) (depthF t d) = fitsL ((t.kids.drop (k + 1)).map fitsF) (fitsF (nth t.kids (k : Int)) m (depthF t d)).1 (depthF t d) := by
  rw [hq, drop_cons hk, List.map_cons, fitsL, if_pos hb]

set_option maxRecDepth 100000 in
theorem fits_step (t : Tr) (ih : ∀ k ∈ t.kids, ∀ (n d : Int) (w : World), TrS w k → wtF k ≤ 1000000 → 0 ≤ n ∧ n ≤ 1000 → 0 ≤ d ∧ d ≤ 1000 → Calls Try.prog 34 #[k.v, .int .i64 n, .int .i64 d] w (fun e w' => e = .returned (.tuple #[.int .i64 (fitsF k n d).1, .bool (fitsF k n d).2]) ∧ Ext none' w w')) (n d : Int) (w : World) (hT : TrS w t) (hP : wtF t ≤ 1000000) (hn : 0 ≤ n ∧ n ≤ 1000) (hd : 0 ≤ d ∧ d ≤ 1000) : Calls Try.prog 34 #[t.v, .int .i64 n, .int .i64 d] w (fun e w' => e = .returned (.tuple #[.int .i64 (fitsF t n d).1, .bool (fitsF t n d).2]) ∧ Ext none' w w') := by
 refine enter (n := 49) Try.func34 rfl rfl (Nat.le_of_ble_eq_true rfl) ?_
 intro a0 τ0 ha st0
 have e0 : get a0 0 = (.agg #[(.int .i64 (t.k)), (.string (t.ch)), (.bool (t.ng)), t.rv.v, (.int .i64 (t.mn)), (.int .i64 (t.mx)), (.bool (t.lz)), t.kv.v]) := ha 0 _ rfl
 have e1 : get a0 1 = (.int .i64 (n)) := ha 1 _ rfl
 have e2 : get a0 2 = (.int .i64 (d)) := ha 2 _ rfl
 clear ha
 have hle := hT.kids.le
 have hwt := wtF_bound t
 have hpk : ∀ k : Nat, k < t.kids.length → wtF (nth t.kids (k : Int)) ≤ 1000000 := fun k h_ => by have h1_ := wtF_kid (nth_memI (xs := t.kids) (i := (k : Int)) (by omega) (by omega)); omega
 refine wp_seq ?_
 refine region_St (bf := [0, 0, 2]) (sp := [box _ _ 0 3 [(.int .i64 (t.k)), (.string (t.ch)), (.bool (t.ng)), t.rv.v, (.int .i64 (t.mn)), (.int .i64 (t.mx)), (.bool (t.lz)), t.kv.v], det _ 6 _, det _ 7 _]) [] mixed st0 (by kernel_rfl) trivial
  ⟨Ob.box (v := (.agg #[(.int .i64 (t.k)), (.string (t.ch)), (.bool (t.ng)), t.rv.v, (.int .i64 (t.mn)), (.int .i64 (t.mx)), (.bool (t.lz)), t.kv.v])) rfl rfl rfl rfl rfl (fun _ _ _ _ c => (c.p e0)),
  Ob.d fun c => r_assign rfl rfl,
  Ob.d fun c => r_assign rfl rfl, trivial⟩ ?_
 intro a1 w1 τ1 st1 f1
 obtain ⟨b1x3, e3⟩ : ∃ b, get a1 3 = b := ⟨_, rfl⟩
 obtain ⟨e1, e2, -⟩ := f1.ks [(1, _), (2, _)] ⟨e1, e2, trivial⟩
 have e6 : get a1 6 = (.int .i64 (0)) := f1.v 1 rfl
 have e7 : get a1 7 = (.bool (false)) := f1.v 2 rfl
 have r0 : boxR 25 [(.int .i64 (t.k)), (.string (t.ch)), (.bool (t.ng)), t.rv.v, (.int .i64 (t.mn)), (.int .i64 (t.mx)), (.bool (t.lz)), t.kv.v] (τ1 0) b1x3 w1 := f1.rb 0 e3 rfl
 clear f1
 show Code.wp _ _ _ a1 w1
 refine wp_seq ?_
 refine wp_seq ?_
 refine region_St (bf := [0, 1, 3]) (sp := [det _ 11 _, det _ 12 _, det _ 13 _]) [ib r0] mixed st1 (by kernel_rfl) ⟨r0, trivial⟩
  ⟨Ob.d fun c => r_fieldAddr rfl Try.underlying25 rfl rfl Try.sizeOf3 ((c.p e3).trans r0.ptr),
  Ob.d fun c => r_load1 rfl Try.isAgg3 (c.n 0 rfl) ((c.ib 0 rfl).cell (j := 0) rfl),
  Ob.c fun c => ⟨_, _, (e_call1 rfl rfl Try.call35 (c.n 1 rfl)), group_c t.k _⟩, trivial⟩ ?_
 intro a2 w2 τ2 st2 f2
 obtain ⟨e1, e2, e3, e6, e7, -⟩ := f2.ks [(1, _), (2, _), (3, _), (6, _), (7, _)] ⟨e1, e2, e3, e6, e7, trivial⟩
 have e13 : get a2 13 = (.bool (decide (t.k = 5) || decide (t.k = 6))) := f2.v 2 rfl
 replace r0 := f2.ib 0 rfl
 clear f2
 show Code.wp _ _ _ a2 w2
 refine wp_cond_split (t := decide (t.k = 5) || decide (t.k = 6)) e13 (fun hc1 => ?_) (fun hc1 => ?_)
 · have hd1 := hc1; try simp only [Bool.or_eq_true, decide_eq_true_eq] at hd1
   refine region_St (bf := [0, 1, 3]) (sp := [det _ 14 _, det _ 15 _, det _ 2 _]) [ib r0] mixed st2 (by kernel_rfl) ⟨r0, trivial⟩
    ⟨Ob.d fun c => r_move rfl (c.p e2),
    Ob.d fun c => r_sub rfl (c.n 0 rfl) rfl (by omega),
    Ob.d fun c => r_assign rfl (c.n 1 rfl), trivial⟩ ?_
   intro a3 w3 τ3 st3 f3
   obtain ⟨e1, e3, e6, e7, -⟩ := f3.ks [(1, _), (3, _), (6, _), (7, _)] ⟨e1, e3, e6, e7, trivial⟩
   have e2 : get a3 2 = (.int .i64 (d - 1)) := f3.v 2 rfl
   replace r0 := f3.ib 0 rfl
   clear f3
   show Code.wp _ _ _ a3 w3
   refine wp_seq ?_
   refine wp_seq ?_
   have hdp : d - 1 = depthF t d := by unfold depthF grpB; first | (rw [if_pos (by simpa using (by assumption))]) | (rw [if_neg (by simpa using (by assumption))])
   replace e2 : get a3 2 = .int .i64 (depthF t d) := e2.trans (int_eq hdp)
   have hdr : depthF t d ≤ 1000 ∧ -1 ≤ depthF t d := by unfold depthF; split <;> omega
   refine region_St (bf := [0, 1, 3, 7, 15, 31, 63, 127, 255, 511, 1023]) (sp := [det _ 16 _, det _ 17 _, det _ 18 _, gdet _ 19 _ _, gdet _ 20 _ _, det _ 21 _, det _ 22 _, gdet _ 23 _ _, gdet _ 24 _ _, gdet _ 25 _ _, det _ 26 _]) [ib r0] mixed st3 (by kernel_rfl) ⟨r0, trivial⟩
    ⟨Ob.d fun c => r_move rfl (c.p e1),
    Ob.d fun c => r_lss rfl (c.n 0 rfl) rfl,
    Ob.d fun c => r_move rfl (c.n 1 rfl),
    Ob.g 2 false rfl fun c hpc => r_move rfl (c.p e2),
    Ob.g 2 false rfl fun c hpc => r_lss rfl (c.m 3 rfl hpc) rfl,
    Ob.d fun c => r_or rfl (c.n 2 rfl) (fun h => c.m 4 rfl h),
    Ob.d fun c => r_move rfl (c.n 5 rfl),
    Ob.g 6 false rfl fun c hpc => r_loadN (vs := [(.int .i64 (t.k)), (.string (t.ch)), (.bool (t.ng)), t.rv.v, (.int .i64 (t.mn)), (.int .i64 (t.mx)), (.bool (t.lz)), t.kv.v]) rfl Try.isAgg25 Try.sizeOf25 ((c.p e3).trans r0.ptr) rfl (fun _ _ hj => (c.ib 0 rfl).cell hj),
    Ob.gc 6 false rfl fun c hpc => ⟨_, _, (e_call1 rfl rfl Try.call40 (c.m 7 rfl hpc)), fields_c t _ (hT.at (st3.ext.trans c.J.ext)) (by have hq0 := hpc; (try simp only [Bool.or_eq_false_iff, decide_eq_false_iff_not, Int.not_lt] at hq0); omega)⟩,
    Ob.g 6 false rfl fun c hpc => r_not rfl (c.m 8 rfl hpc),
    Ob.d fun c => r_or rfl (c.n 6 rfl) (fun h => c.m 9 rfl h), trivial⟩ ?_
   intro a4 w4 τ4 st4 f4
   obtain ⟨e1, e2, e3, e6, e7, -⟩ := f4.ks [(1, _), (2, _), (3, _), (6, _), (7, _)] ⟨e1, e2, e3, e6, e7, trivial⟩
   have e26 : get a4 26 = (.bool (((decide (n < 1)) || (decide (depthF t d < 0))) || (!(fieldsF t)))) := f4.v 10 rfl
   replace r0 := f4.ib 0 rfl
   clear f4
   show Code.wp _ _ _ a4 w4
   refine wp_cond_split (t := ((decide (n < 1)) || (decide (depthF t d < 0))) || (!(fieldsF t))) e26 (fun hc2 => ?_) (fun hc2 => ?_)
   · have hd2 := hc2; try simp only [Bool.or_eq_true, Bool.or_eq_false_iff, Bool.not_eq_true', Bool.not_eq_false', decide_eq_true_eq, decide_eq_false_iff_not, Int.not_lt] at hd2
     refine wp_seq ?_
     have hcd := hc2
     refine region_St (bf := [0, 1, 3]) (sp := [det _ 27 _, det _ 6 _, det _ 7 _]) [ib r0] mixed st4 (by kernel_rfl) ⟨r0, trivial⟩
      ⟨Ob.d fun c => r_move rfl (c.p e1),
      Ob.d fun c => r_assign rfl (c.n 0 rfl),
      Ob.d fun c => r_assign rfl rfl, trivial⟩ ?_
     intro a5 w5 τ5 st5 f5
     obtain ⟨e1, e2, e3, -⟩ := f5.ks [(1, _), (2, _), (3, _)] ⟨e1, e2, e3, trivial⟩
     have e6 : get a5 6 = (.int .i64 (n)) := f5.v 1 rfl
     have e7 : get a5 7 = (.bool (false)) := f5.v 2 rfl
     replace r0 := f5.ib 0 rfl
     clear f5
     show Code.wp _ _ _ a5 w5
     refine wp_ret ?_
     repeat (first | with_reducible refine then_ret ?_ | with_reducible refine block_ret ?_)
     refine ret2 (fn := Try.f34) rfl st5.defers e6 e7 ?_
     exact ⟨congrArg _ (show (Value.tuple #[(.int .i64 (n)), (.bool (false))]) = (.tuple #[.int .i64 (fitsF t n d).1, .bool (fitsF t n d).2]) from by rw [fits_no hcd]), st5.ext0⟩
   have hd2 := hc2; try simp only [Bool.or_eq_true, Bool.or_eq_false_iff, Bool.not_eq_true', Bool.not_eq_false', decide_eq_true_eq, decide_eq_false_iff_not, Int.not_lt] at hd2
   refine wp_skip ?_
   show Code.wp _ _ _ a4 w4
   refine wp_seq ?_
   have hcd : ((decide (n < 1) || decide (depthF t d < 0)) || !fieldsF t) = false := by assumption
   have hce := hcd
   simp only [Bool.or_eq_false_iff, decide_eq_false_iff_not, Int.not_lt] at hce
   refine region_St (bf := [0, 1, 3]) (sp := [det _ 28 _, det _ 29 _, det _ 1 _]) [ib r0] mixed st4 (by kernel_rfl) ⟨r0, trivial⟩
    ⟨Ob.d fun c => r_move rfl (c.p e1),
    Ob.d fun c => r_sub rfl (c.n 0 rfl) rfl (by omega),
    Ob.d fun c => r_assign rfl (c.n 1 rfl), trivial⟩ ?_
   intro a6 w6 τ6 st6 f6
   obtain ⟨e2, e3, e6, e7, -⟩ := f6.ks [(2, _), (3, _), (6, _), (7, _)] ⟨e2, e3, e6, e7, trivial⟩
   have e1 : get a6 1 = (.int .i64 (n - 1)) := f6.v 2 rfl
   replace r0 := f6.ib 0 rfl
   clear f6
   show Code.wp _ _ _ a6 w6
   refine wp_seq ?_
   refine wp_seq ?_
   refine region_St (bf := [0, 1, 3, 0]) (sp := [det _ 30 _, det _ 31 _, det _ 32 _, det _ 33 _]) [ib r0] mixed st6 (by kernel_rfl) ⟨r0, trivial⟩
    ⟨Ob.d fun c => r_fieldAddr rfl Try.underlying25 rfl rfl Try.sizeOf23 ((c.p e3).trans r0.ptr),
    Ob.d fun c => r_load1 rfl Try.isAgg23 (c.n 0 rfl) ((c.ib 0 rfl).cell (j := 7) rfl),
    Ob.d fun c => r_len rfl Try.underlying23 (c.n 1 rfl) (hT.at st6.ext).tl.sl.sl,
    Ob.d fun c => r_move rfl rfl, trivial⟩ ?_
   intro a7 w7 τ7 st7 f7
   obtain ⟨e1, e2, e6, e7, -⟩ := f7.ks [(1, _), (2, _), (6, _), (7, _)] ⟨e1, e2, e6, e7, trivial⟩
   have e31 : get a7 31 = t.kv.v := f7.v 1 rfl
   have e32 : get a7 32 = (.int .i64 ((t.kids.length : Int))) := f7.v 2 rfl
   have e33 : get a7 33 = (.int .i64 (0)) := f7.v 3 rfl
   clear f7
   show Code.wp _ _ _ a7 w7
   refine wp_block ?_
   refine wp_loop (fun a_ w_ => ∃ (k : Nat) (m : Int) (τ : Nat → Foot), (k ≤ t.kids.length) ∧
          (0 ≤ m ∧ m ≤ 1000) ∧
          (fitsL (t.kids.map fitsF) (n - 1) (depthF t d) = fitsL ((t.kids.drop k).map fitsF) m (depthF t d)) ∧
          St (Nw w) w 49 a_ w_ τ ∧
          get a_ 1 = (.int .i64 (m)) ∧
          get a_ 33 = (.int .i64 ((k : Int))) ∧
          get a_ 2 = (.int .i64 (depthF t d)) ∧
          get a_ 31 = t.kv.v ∧
          get a_ 32 = (.int .i64 ((t.kids.length : Int)))) (fun a_ _ => t.kids.length - (intOf (get a_ 33)).toNat) ?_ ?_
   · refine ⟨0, n - 1, τ7, ?_, ?_, ?_, st7, (e1.trans (int_eq (by omega))), (e33.trans (int_eq (by omega))), e2, e31, e32⟩
     · omega
     · omega
     · rfl
   intro a8 w8 hI
   obtain ⟨k, m, τ8, q0, q1, q2, st8, e1, e33, e2, e31, e32⟩ := hI
   have hpk0 := hpk k
   have m33 := e33
   refine wp_seq ?_
   refine region_St (bf := [0]) (sp := [det _ 34 _]) [] mixed st8 (by kernel_rfl) trivial
    ⟨Ob.d fun c => r_lss rfl (c.p e33) (c.p e32), trivial⟩ ?_
   intro a9 w9 τ9 st9 f9
   obtain ⟨e1, e2, e31, e32, e33, -⟩ := f9.ks [(1, _), (2, _), (31, _), (32, _), (33, _)] ⟨e1, e2, e31, e32, e33, trivial⟩
   have e34 : get a9 34 = (.bool (decide ((k : Int) < (t.kids.length : Int)))) := f9.v 0 rfl
   clear f9
   show Code.wp _ _ _ a9 w9
   refine wp_seq ?_
   refine wp_cond_split (t := decide ((k : Int) < (t.kids.length : Int))) e34 (fun hc3 => ?_) (fun hc3 => ?_)
   · try simp only [decide_eq_true_eq] at hc3
     refine wp_skip ?_
     show Code.wp _ _ _ a9 w9
     refine wp_seq ?_
     refine wp_block ?_
     refine wp_seq ?_
     refine region_St (bf := [0, 1, 0, 7]) (sp := [det _ 35 _, det _ 36 _, box _ _ 0 9 [(.int .i64 (0)), (.string ((⟨#[]⟩ : ByteArray))), (.bool (false)), (.slice none 0 0), (.int .i64 (0)), (.int .i64 (0)), (.bool (false)), (.slice none 0 0)], box _ _ 0 9 [(.int .i64 ((nth t.kids ((k : Int))).k)), (.string ((nth t.kids ((k : Int))).ch)), (.bool ((nth t.kids ((k : Int))).ng)), (nth t.kids ((k : Int))).rv.v, (.int .i64 ((nth t.kids ((k : Int))).mn)), (.int .i64 ((nth t.kids ((k : Int))).mx)), (.bool ((nth t.kids ((k : Int))).lz)), (nth t.kids ((k : Int))).kv.v]]) [] mixed st9 (by kernel_rfl) trivial
      ⟨Ob.d fun c => r_indexAddr rfl Try.underlying23 Try.sizeOf25 (c.p e31) (hT.at st9.ext).tl.sl.sl (c.p e33) (by omega) (by omega),
      Ob.d fun c => r_loadN (vs := [(.int .i64 ((nth t.kids ((k : Int))).k)), (.string ((nth t.kids ((k : Int))).ch)), (.bool ((nth t.kids ((k : Int))).ng)), (nth t.kids ((k : Int))).rv.v, (.int .i64 ((nth t.kids ((k : Int))).mn)), (.int .i64 ((nth t.kids ((k : Int))).mx)), (.bool ((nth t.kids ((k : Int))).lz)), (nth t.kids ((k : Int))).kv.v]) rfl Try.isAgg25 Try.sizeOf25 (c.n 0 rfl) rfl (fun _ _ hj => ((hT.at (st9.ext.trans c.J.ext)).tl.sl).elem (nth_some (i := (k : Int)) (by omega) (by omega)) hj),
      Ob.alloc rfl rfl rfl rfl Try.zeroValue25 rfl,
      Ob.storeBox (off := 0) (v := (.agg #[(.int .i64 ((nth t.kids ((k : Int))).k)), (.string ((nth t.kids ((k : Int))).ch)), (.bool ((nth t.kids ((k : Int))).ng)), (nth t.kids ((k : Int))).rv.v, (.int .i64 ((nth t.kids ((k : Int))).mn)), (.int .i64 ((nth t.kids ((k : Int))).mx)), (.bool ((nth t.kids ((k : Int))).lz)), (nth t.kids ((k : Int))).kv.v])) rfl rfl rfl rfl Try.sizeOf25 (Nat.le_of_ble_eq_true rfl) (by simp [Value.cells, Value.oneCell', Sv.v]) rfl (fun _ _ _ _ c => ⟨c.rb 2 rfl, (c.rb 2 rfl).ptr, (c.n 1 rfl)⟩), trivial⟩ ?_
     intro a10 w10 τ10 st10 f10
     obtain ⟨b10x9, e9⟩ : ∃ b, get a10 9 = b := ⟨_, rfl⟩
     obtain ⟨e1, e2, e31, e32, e33, e34, -⟩ := f10.ks [(1, _), (2, _), (31, _), (32, _), (33, _), (34, _)] ⟨e1, e2, e31, e32, e33, e34, trivial⟩
     have r0 : boxR 25 [(.int .i64 ((nth t.kids ((k : Int))).k)), (.string ((nth t.kids ((k : Int))).ch)), (.bool ((nth t.kids ((k : Int))).ng)), (nth t.kids ((k : Int))).rv.v, (.int .i64 ((nth t.kids ((k : Int))).mn)), (.int .i64 ((nth t.kids ((k : Int))).mx)), (.bool ((nth t.kids ((k : Int))).lz)), (nth t.kids ((k : Int))).kv.v] (τ10 0) b10x9 w10 := f10.rb 3 e9 rfl
     clear f10
     show Code.wp _ _ _ a10 w10
     refine wp_seq ?_
     refine region_St (bf := [0]) (sp := [det _ 10 _]) [ib r0] mixed st10 (by kernel_rfl) ⟨r0, trivial⟩
      ⟨Ob.d fun c => r_assign rfl rfl, trivial⟩ ?_
     intro a11 w11 τ11 st11 f11
     obtain ⟨e1, e2, e9, e31, e32, e33, e34, -⟩ := f11.ks [(1, _), (2, _), (9, _), (31, _), (32, _), (33, _), (34, _)] ⟨e1, e2, e9, e31, e32, e33, e34, trivial⟩
     have e10 : get a11 10 = (.bool (false)) := f11.v 0 rfl
     replace r0 := f11.ib 0 rfl
     clear f11
     show Code.wp _ _ _ a11 w11
     refine wp_seq ?_
     refine region_St (bf := [0, 0, 0, 7, 15, 31, 31, 63, 255]) (sp := [det _ 38 _, det _ 39 _, det _ 40 _, det _ 41 _, det _ 37 _, det _ 42 _, det _ 43 _, det _ 1 _, det _ 10 _]) [ib r0] mixed st11 (by kernel_rfl) ⟨r0, trivial⟩
      ⟨Ob.d fun c => r_loadN (vs := [(.int .i64 ((nth t.kids ((k : Int))).k)), (.string ((nth t.kids ((k : Int))).ch)), (.bool ((nth t.kids ((k : Int))).ng)), (nth t.kids ((k : Int))).rv.v, (.int .i64 ((nth t.kids ((k : Int))).mn)), (.int .i64 ((nth t.kids ((k : Int))).mx)), (.bool ((nth t.kids ((k : Int))).lz)), (nth t.kids ((k : Int))).kv.v]) rfl Try.isAgg25 Try.sizeOf25 ((c.p e9).trans r0.ptr) rfl (fun _ _ hj => (c.ib 0 rfl).cell hj),
      Ob.d fun c => r_move rfl (c.p e1),
      Ob.d fun c => r_move rfl (c.p e2),
      Ob.c fun c => ⟨_, _, (e_call3 rfl rfl Try.call34 (c.n 0 rfl) (c.n 1 rfl) (c.n 2 rfl)), ih _ (nth_memI (by omega) (by omega)) m (depthF t d) _ ((hT.at (st11.ext.trans c.J.ext)).tl.el (by omega) (by omega)) (by omega) (by omega) (by omega)⟩,
      Ob.d fun c => r_move rfl (c.n 3 rfl),
      Ob.d fun c => r_extract rfl (c.n 4 rfl) rfl,
      Ob.d fun c => r_extract rfl (c.n 4 rfl) rfl,
      Ob.d fun c => r_assign rfl (c.n 5 rfl),
      Ob.d fun c => r_assign rfl (c.n 6 rfl), trivial⟩ ?_
     intro a12 w12 τ12 st12 f12
     obtain ⟨e2, e9, e31, e32, e33, e34, -⟩ := f12.ks [(2, _), (9, _), (31, _), (32, _), (33, _), (34, _)] ⟨e2, e9, e31, e32, e33, e34, trivial⟩
     have e1 : get a12 1 = (.int .i64 ((fitsF (nth t.kids ((k : Int))) m (depthF t d)).1)) := f12.v 7 rfl
     have e10 : get a12 10 = (.bool ((fitsF (nth t.kids ((k : Int))) m (depthF t d)).2)) := f12.v 8 rfl
     replace r0 := f12.ib 0 rfl
     clear f12
     show Code.wp _ _ _ a12 w12
     refine wp_seq ?_
     refine region_St (bf := [0, 1]) (sp := [det _ 44 _, det _ 45 _]) [ib r0] mixed st12 (by kernel_rfl) ⟨r0, trivial⟩
      ⟨Ob.d fun c => r_move rfl (c.p e10),
      Ob.d fun c => r_not rfl (c.n 0 rfl), trivial⟩ ?_
     intro a13 w13 τ13 st13 f13
     obtain ⟨e1, e2, e9, e10, e31, e32, e33, e34, -⟩ := f13.ks [(1, _), (2, _), (9, _), (10, _), (31, _), (32, _), (33, _), (34, _)] ⟨e1, e2, e9, e10, e31, e32, e33, e34, trivial⟩
     have e45 : get a13 45 = (.bool (!((fitsF (nth t.kids ((k : Int))) m (depthF t d)).2))) := f13.v 1 rfl
     replace r0 := f13.ib 0 rfl
     clear f13
     show Code.wp _ _ _ a13 w13
     refine wp_cond_split (t := !((fitsF (nth t.kids ((k : Int))) m (depthF t d)).2)) e45 (fun hc4 => ?_) (fun hc4 => ?_)
     · have hd4 := hc4; try simp only [Bool.not_eq_true', Bool.not_eq_false'] at hd4
       refine wp_seq ?_
       have hbad : (fitsF (nth t.kids (k : Int)) m (depthF t d)).2 = false := by simpa using (by assumption : (!(fitsF (nth t.kids (k : Int)) m (depthF t d)).2) = true)
       refine region_St (bf := [0, 1, 3]) (sp := [det _ 46 _, det _ 6 _, det _ 7 _]) [ib r0] mixed st13 (by kernel_rfl) ⟨r0, trivial⟩
        ⟨Ob.d fun c => r_move rfl (c.p e1),
        Ob.d fun c => r_assign rfl (c.n 0 rfl),
        Ob.d fun c => r_assign rfl rfl, trivial⟩ ?_
       intro a14 w14 τ14 st14 f14
       obtain ⟨e1, e2, e9, e10, e31, e32, e33, e34, e45, -⟩ := f14.ks [(1, _), (2, _), (9, _), (10, _), (31, _), (32, _), (33, _), (34, _), (45, _)] ⟨e1, e2, e9, e10, e31, e32, e33, e34, e45, trivial⟩
       have e6 : get a14 6 = (.int .i64 ((fitsF (nth t.kids ((k : Int))) m (depthF t d)).1)) := f14.v 1 rfl
       have e7 : get a14 7 = (.bool (false)) := f14.v 2 rfl
       replace r0 := f14.ib 0 rfl
       clear f14
       show Code.wp _ _ _ a14 w14
       refine wp_ret ?_
       repeat (first | with_reducible refine then_ret ?_ | with_reducible refine block_ret ?_)
       refine ret2 (fn := Try.f34) rfl st14.defers e6 e7 ?_
       exact ⟨congrArg _ (show (Value.tuple #[(.int .i64 ((fitsF (nth t.kids ((k : Int))) m (depthF t d)).1)), (.bool (false))]) = (.tuple #[.int .i64 (fitsF t n d).1, .bool (fitsF t n d).2]) from by rw [fits_bad hcd q2 (by omega) hbad]), st14.ext0⟩
     have hd4 := hc4; try simp only [Bool.not_eq_true', Bool.not_eq_false'] at hd4
     refine wp_skip ?_
     show _
     show Code.wp _ _ _ a13 w13
     have hgood : (fitsF (nth t.kids (k : Int)) m (depthF t d)).2 = true := by simpa using (by assumption : (!(fitsF (nth t.kids (k : Int)) m (depthF t d)).2) = false)
     have hrg := fitsF_range (nth t.kids (k : Int)) (n := m) (d := depthF t d) (by omega)
     refine region_St (bf := [0, 1]) (sp := [det _ 47 _, det _ 33 _]) [ib r0] mixed st13 (by kernel_rfl) ⟨r0, trivial⟩
      ⟨Ob.d fun c => r_add rfl (c.p e33) rfl (by omega),
      Ob.d fun c => r_move rfl (c.n 0 rfl), trivial⟩ ?_
     intro a15 w15 τ15 st15 f15
     obtain ⟨e1, e2, e9, e10, e31, e32, e34, e45, -⟩ := f15.ks [(1, _), (2, _), (9, _), (10, _), (31, _), (32, _), (34, _), (45, _)] ⟨e1, e2, e9, e10, e31, e32, e34, e45, trivial⟩
     have e33 : get a15 33 = (.int .i64 ((k : Int) + 1)) := f15.v 1 rfl
     replace r0 := f15.ib 0 rfl
     clear f15
     refine ⟨⟨k + 1, (fitsF (nth t.kids (k : Int)) m (depthF t d)).1, τ15, ?_, ?_, ?_, st15, (e1.trans (int_eq (by omega))), (e33.trans (int_eq (by omega))), e2, e31, e32⟩, ?_⟩
     · omega
     · omega
     · exact fits_next q2 (by omega) hgood
     · simp only [m33, e33, intOf]; omega
   try simp only [decide_eq_false_iff_not, Int.not_lt] at hc3
   refine wp_exit ?_
   repeat (with_reducible refine then_exit ?_)
   refine exit_here ?_
   show Code.wp _ _ _ a9 w9
   refine wp_seq ?_
   refine region_St (bf := [0, 1, 3]) (sp := [det _ 48 _, det _ 6 _, det _ 7 _]) [] mixed st9 (by kernel_rfl) trivial
    ⟨Ob.d fun c => r_move rfl (c.p e1),
    Ob.d fun c => r_assign rfl (c.n 0 rfl),
    Ob.d fun c => r_assign rfl rfl, trivial⟩ ?_
   intro a16 w16 τ16 st16 f16
   have e6 : get a16 6 = (.int .i64 (m)) := f16.v 1 rfl
   have e7 : get a16 7 = (.bool (true)) := f16.v 2 rfl
   clear f16
   show Code.wp _ _ _ a16 w16
   refine wp_ret ?_
   repeat (first | with_reducible refine then_ret ?_ | with_reducible refine block_ret ?_)
   refine ret2 (fn := Try.f34) rfl st16.defers e6 e7 ?_
   exact ⟨congrArg _ (show (Value.tuple #[(.int .i64 (m)), (.bool (true))]) = (.tuple #[.int .i64 (fitsF t n d).1, .bool (fitsF t n d).2]) from by rw [fits_end hcd q2 (by omega)]), st16.ext0⟩
 have hd4 := hc1; try simp only [Bool.or_eq_false_iff, decide_eq_false_iff_not] at hd4
 refine wp_skip ?_
 show Code.wp _ _ _ a2 w2
 refine wp_seq ?_
 refine wp_seq ?_
 have hdp : d = depthF t d := by unfold depthF grpB; first | (rw [if_pos (by simpa using (by assumption))]) | (rw [if_neg (by simpa using (by assumption))])
 replace e2 : get a2 2 = .int .i64 (depthF t d) := e2.trans (int_eq hdp)
 have hdr : depthF t d ≤ 1000 ∧ -1 ≤ depthF t d := by unfold depthF; split <;> omega
 refine region_St (bf := [0, 1, 3, 7, 15, 31, 63, 127, 255, 511, 1023]) (sp := [det _ 16 _, det _ 17 _, det _ 18 _, gdet _ 19 _ _, gdet _ 20 _ _, det _ 21 _, det _ 22 _, gdet _ 23 _ _, gdet _ 24 _ _, gdet _ 25 _ _, det _ 26 _]) [ib r0] mixed st2 (by kernel_rfl) ⟨r0, trivial⟩
  ⟨Ob.d fun c => r_move rfl (c.p e1),
  Ob.d fun c => r_lss rfl (c.n 0 rfl) rfl,
  Ob.d fun c => r_move rfl (c.n 1 rfl),
  Ob.g 2 false rfl fun c hpc => r_move rfl (c.p e2),
  Ob.g 2 false rfl fun c hpc => r_lss rfl (c.m 3 rfl hpc) rfl,
  Ob.d fun c => r_or rfl (c.n 2 rfl) (fun h => c.m 4 rfl h),
  Ob.d fun c => r_move rfl (c.n 5 rfl),
  Ob.g 6 false rfl fun c hpc => r_loadN (vs := [(.int .i64 (t.k)), (.string (t.ch)), (.bool (t.ng)), t.rv.v, (.int .i64 (t.mn)), (.int .i64 (t.mx)), (.bool (t.lz)), t.kv.v]) rfl Try.isAgg25 Try.sizeOf25 ((c.p e3).trans r0.ptr) rfl (fun _ _ hj => (c.ib 0 rfl).cell hj),
  Ob.gc 6 false rfl fun c hpc => ⟨_, _, (e_call1 rfl rfl Try.call40 (c.m 7 rfl hpc)), fields_c t _ (hT.at (st2.ext.trans c.J.ext)) (by have hq0 := hpc; (try simp only [Bool.or_eq_false_iff, decide_eq_false_iff_not, Int.not_lt] at hq0); omega)⟩,
  Ob.g 6 false rfl fun c hpc => r_not rfl (c.m 8 rfl hpc),
  Ob.d fun c => r_or rfl (c.n 6 rfl) (fun h => c.m 9 rfl h), trivial⟩ ?_
 intro a17 w17 τ17 st17 f17
 obtain ⟨e1, e2, e3, e6, e7, -⟩ := f17.ks [(1, _), (2, _), (3, _), (6, _), (7, _)] ⟨e1, e2, e3, e6, e7, trivial⟩
 have e26 : get a17 26 = (.bool (((decide (n < 1)) || (decide (depthF t d < 0))) || (!(fieldsF t)))) := f17.v 10 rfl
 replace r0 := f17.ib 0 rfl
 clear f17
 show Code.wp _ _ _ a17 w17
 refine wp_cond_split (t := ((decide (n < 1)) || (decide (depthF t d < 0))) || (!(fieldsF t))) e26 (fun hc5 => ?_) (fun hc5 => ?_)
 · have hd5 := hc5; try simp only [Bool.or_eq_true, Bool.or_eq_false_iff, Bool.not_eq_true', Bool.not_eq_false', decide_eq_true_eq, decide_eq_false_iff_not, Int.not_lt] at hd5
   refine wp_seq ?_
   have hcd := hc5
   refine region_St (bf := [0, 1, 3]) (sp := [det _ 27 _, det _ 6 _, det _ 7 _]) [ib r0] mixed st17 (by kernel_rfl) ⟨r0, trivial⟩
    ⟨Ob.d fun c => r_move rfl (c.p e1),
    Ob.d fun c => r_assign rfl (c.n 0 rfl),
    Ob.d fun c => r_assign rfl rfl, trivial⟩ ?_
   intro a18 w18 τ18 st18 f18
   obtain ⟨e1, e2, e3, -⟩ := f18.ks [(1, _), (2, _), (3, _)] ⟨e1, e2, e3, trivial⟩
   have e6 : get a18 6 = (.int .i64 (n)) := f18.v 1 rfl
   have e7 : get a18 7 = (.bool (false)) := f18.v 2 rfl
   replace r0 := f18.ib 0 rfl
   clear f18
   show Code.wp _ _ _ a18 w18
   refine wp_ret ?_
   repeat (first | with_reducible refine then_ret ?_ | with_reducible refine block_ret ?_)
   refine ret2 (fn := Try.f34) rfl st18.defers e6 e7 ?_
   exact ⟨congrArg _ (show (Value.tuple #[(.int .i64 (n)), (.bool (false))]) = (.tuple #[.int .i64 (fitsF t n d).1, .bool (fitsF t n d).2]) from by rw [fits_no hcd]), st18.ext0⟩
 have hd5 := hc5; try simp only [Bool.or_eq_true, Bool.or_eq_false_iff, Bool.not_eq_true', Bool.not_eq_false', decide_eq_true_eq, decide_eq_false_iff_not, Int.not_lt] at hd5
 refine wp_skip ?_
 show Code.wp _ _ _ a17 w17
 refine wp_seq ?_
 have hcd : ((decide (n < 1) || decide (depthF t d < 0)) || !fieldsF t) = false := by assumption
 have hce := hcd
 simp only [Bool.or_eq_false_iff, decide_eq_false_iff_not, Int.not_lt] at hce
 refine region_St (bf := [0, 1, 3]) (sp := [det _ 28 _, det _ 29 _, det _ 1 _]) [ib r0] mixed st17 (by kernel_rfl) ⟨r0, trivial⟩
  ⟨Ob.d fun c => r_move rfl (c.p e1),
  Ob.d fun c => r_sub rfl (c.n 0 rfl) rfl (by omega),
  Ob.d fun c => r_assign rfl (c.n 1 rfl), trivial⟩ ?_
 intro a19 w19 τ19 st19 f19
 obtain ⟨e2, e3, e6, e7, -⟩ := f19.ks [(2, _), (3, _), (6, _), (7, _)] ⟨e2, e3, e6, e7, trivial⟩
 have e1 : get a19 1 = (.int .i64 (n - 1)) := f19.v 2 rfl
 replace r0 := f19.ib 0 rfl
 clear f19
 show Code.wp _ _ _ a19 w19
 refine wp_seq ?_
 refine wp_seq ?_
 refine region_St (bf := [0, 1, 3, 0]) (sp := [det _ 30 _, det _ 31 _, det _ 32 _, det _ 33 _]) [ib r0] mixed st19 (by kernel_rfl) ⟨r0, trivial⟩
  ⟨Ob.d fun c => r_fieldAddr rfl Try.underlying25 rfl rfl Try.sizeOf23 ((c.p e3).trans r0.ptr),
  Ob.d fun c => r_load1 rfl Try.isAgg23 (c.n 0 rfl) ((c.ib 0 rfl).cell (j := 7) rfl),
  Ob.d fun c => r_len rfl Try.underlying23 (c.n 1 rfl) (hT.at st19.ext).tl.sl.sl,
  Ob.d fun c => r_move rfl rfl, trivial⟩ ?_
 intro a20 w20 τ20 st20 f20
 obtain ⟨e1, e2, e6, e7, -⟩ := f20.ks [(1, _), (2, _), (6, _), (7, _)] ⟨e1, e2, e6, e7, trivial⟩
 have e31 : get a20 31 = t.kv.v := f20.v 1 rfl
 have e32 : get a20 32 = (.int .i64 ((t.kids.length : Int))) := f20.v 2 rfl
 have e33 : get a20 33 = (.int .i64 (0)) := f20.v 3 rfl
 clear f20
 show Code.wp _ _ _ a20 w20
 refine wp_block ?_
 refine wp_loop (fun a_ w_ => ∃ (k : Nat) (m : Int) (τ : Nat → Foot), (k ≤ t.kids.length) ∧
      (0 ≤ m ∧ m ≤ 1000) ∧
      (fitsL (t.kids.map fitsF) (n - 1) (depthF t d) = fitsL ((t.kids.drop k).map fitsF) m (depthF t d)) ∧
      St (Nw w) w 49 a_ w_ τ ∧
      get a_ 1 = (.int .i64 (m)) ∧
      get a_ 33 = (.int .i64 ((k : Int))) ∧
      get a_ 2 = (.int .i64 (depthF t d)) ∧
      get a_ 31 = t.kv.v ∧
      get a_ 32 = (.int .i64 ((t.kids.length : Int)))) (fun a_ _ => t.kids.length - (intOf (get a_ 33)).toNat) ?_ ?_
 · refine ⟨0, n - 1, τ20, ?_, ?_, ?_, st20, (e1.trans (int_eq (by omega))), (e33.trans (int_eq (by omega))), e2, e31, e32⟩
   · omega
   · omega
   · rfl
 intro a21 w21 hI
 obtain ⟨k, m, τ21, q0, q1, q2, st21, e1, e33, e2, e31, e32⟩ := hI
 have hpk0 := hpk k
 have m33 := e33
 refine wp_seq ?_
 refine region_St (bf := [0]) (sp := [det _ 34 _]) [] mixed st21 (by kernel_rfl) trivial
  ⟨Ob.d fun c => r_lss rfl (c.p e33) (c.p e32), trivial⟩ ?_
 intro a22 w22 τ22 st22 f22
 obtain ⟨e1, e2, e31, e32, e33, -⟩ := f22.ks [(1, _), (2, _), (31, _), (32, _), (33, _)] ⟨e1, e2, e31, e32, e33, trivial⟩
 have e34 : get a22 34 = (.bool (decide ((k : Int) < (t.kids.length : Int)))) := f22.v 0 rfl
 clear f22
 show Code.wp _ _ _ a22 w22
 refine wp_seq ?_
 refine wp_cond_split (t := decide ((k : Int) < (t.kids.length : Int))) e34 (fun hc6 => ?_) (fun hc6 => ?_)
 · try simp only [decide_eq_true_eq] at hc6
   refine wp_skip ?_
   show Code.wp _ _ _ a22 w22
   refine wp_seq ?_
   refine wp_block ?_
   refine wp_seq ?_
   refine region_St (bf := [0, 1, 0, 7]) (sp := [det _ 35 _, det _ 36 _, box _ _ 0 9 [(.int .i64 (0)), (.string ((⟨#[]⟩ : ByteArray))), (.bool (false)), (.slice none 0 0), (.int .i64 (0)), (.int .i64 (0)), (.bool (false)), (.slice none 0 0)], box _ _ 0 9 [(.int .i64 ((nth t.kids ((k : Int))).k)), (.string ((nth t.kids ((k : Int))).ch)), (.bool ((nth t.kids ((k : Int))).ng)), (nth t.kids ((k : Int))).rv.v, (.int .i64 ((nth t.kids ((k : Int))).mn)), (.int .i64 ((nth t.kids ((k : Int))).mx)), (.bool ((nth t.kids ((k : Int))).lz)), (nth t.kids ((k : Int))).kv.v]]) [] mixed st22 (by kernel_rfl) trivial
    ⟨Ob.d fun c => r_indexAddr rfl Try.underlying23 Try.sizeOf25 (c.p e31) (hT.at st22.ext).tl.sl.sl (c.p e33) (by omega) (by omega),
    Ob.d fun c => r_loadN (vs := [(.int .i64 ((nth t.kids ((k : Int))).k)), (.string ((nth t.kids ((k : Int))).ch)), (.bool ((nth t.kids ((k : Int))).ng)), (nth t.kids ((k : Int))).rv.v, (.int .i64 ((nth t.kids ((k : Int))).mn)), (.int .i64 ((nth t.kids ((k : Int))).mx)), (.bool ((nth t.kids ((k : Int))).lz)), (nth t.kids ((k : Int))).kv.v]) rfl Try.isAgg25 Try.sizeOf25 (c.n 0 rfl) rfl (fun _ _ hj => ((hT.at (st22.ext.trans c.J.ext)).tl.sl).elem (nth_some (i := (k : Int)) (by omega) (by omega)) hj),
    Ob.alloc rfl rfl rfl rfl Try.zeroValue25 rfl,
    Ob.storeBox (off := 0) (v := (.agg #[(.int .i64 ((nth t.kids ((k : Int))).k)), (.string ((nth t.kids ((k : Int))).ch)), (.bool ((nth t.kids ((k : Int))).ng)), (nth t.kids ((k : Int))).rv.v, (.int .i64 ((nth t.kids ((k : Int))).mn)), (.int .i64 ((nth t.kids ((k : Int))).mx)), (.bool ((nth t.kids ((k : Int))).lz)), (nth t.kids ((k : Int))).kv.v])) rfl rfl rfl rfl Try.sizeOf25 (Nat.le_of_ble_eq_true rfl) (by simp [Value.cells, Value.oneCell', Sv.v]) rfl (fun _ _ _ _ c => ⟨c.rb 2 rfl, (c.rb 2 rfl).ptr, (c.n 1 rfl)⟩), trivial⟩ ?_
   intro a23 w23 τ23 st23 f23
   obtain ⟨b23x9, e9⟩ : ∃ b, get a23 9 = b := ⟨_, rfl⟩
   obtain ⟨e1, e2, e31, e32, e33, e34, -⟩ := f23.ks [(1, _), (2, _), (31, _), (32, _), (33, _), (34, _)] ⟨e1, e2, e31, e32, e33, e34, trivial⟩
   have r0 : boxR 25 [(.int .i64 ((nth t.kids ((k : Int))).k)), (.string ((nth t.kids ((k : Int))).ch)), (.bool ((nth t.kids ((k : Int))).ng)), (nth t.kids ((k : Int))).rv.v, (.int .i64 ((nth t.kids ((k : Int))).mn)), (.int .i64 ((nth t.kids ((k : Int))).mx)), (.bool ((nth t.kids ((k : Int))).lz)), (nth t.kids ((k : Int))).kv.v] (τ23 0) b23x9 w23 := f23.rb 3 e9 rfl
   clear f23
   show Code.wp _ _ _ a23 w23
   refine wp_seq ?_
   refine region_St (bf := [0]) (sp := [det _ 10 _]) [ib r0] mixed st23 (by kernel_rfl) ⟨r0, trivial⟩
    ⟨Ob.d fun c => r_assign rfl rfl, trivial⟩ ?_
   intro a24 w24 τ24 st24 f24
   obtain ⟨e1, e2, e9, e31, e32, e33, e34, -⟩ := f24.ks [(1, _), (2, _), (9, _), (31, _), (32, _), (33, _), (34, _)] ⟨e1, e2, e9, e31, e32, e33, e34, trivial⟩
   have e10 : get a24 10 = (.bool (false)) := f24.v 0 rfl
   replace r0 := f24.ib 0 rfl
   clear f24
   show Code.wp _ _ _ a24 w24
   refine wp_seq ?_
   refine region_St (bf := [0, 0, 0, 7, 15, 31, 31, 63, 255]) (sp := [det _ 38 _, det _ 39 _, det _ 40 _, det _ 41 _, det _ 37 _, det _ 42 _, det _ 43 _, det _ 1 _, det _ 10 _]) [ib r0] mixed st24 (by kernel_rfl) ⟨r0, trivial⟩
    ⟨Ob.d fun c => r_loadN (vs := [(.int .i64 ((nth t.kids ((k : Int))).k)), (.string ((nth t.kids ((k : Int))).ch)), (.bool ((nth t.kids ((k : Int))).ng)), (nth t.kids ((k : Int))).rv.v, (.int .i64 ((nth t.kids ((k : Int))).mn)), (.int .i64 ((nth t.kids ((k : Int))).mx)), (.bool ((nth t.kids ((k : Int))).lz)), (nth t.kids ((k : Int))).kv.v]) rfl Try.isAgg25 Try.sizeOf25 ((c.p e9).trans r0.ptr) rfl (fun _ _ hj => (c.ib 0 rfl).cell hj),
    Ob.d fun c => r_move rfl (c.p e1),
    Ob.d fun c => r_move rfl (c.p e2),
    Ob.c fun c => ⟨_, _, (e_call3 rfl rfl Try.call34 (c.n 0 rfl) (c.n 1 rfl) (c.n 2 rfl)), ih _ (nth_memI (by omega) (by omega)) m (depthF t d) _ ((hT.at (st24.ext.trans c.J.ext)).tl.el (by omega) (by omega)) (by omega) (by omega) (by omega)⟩,
    Ob.d fun c => r_move rfl (c.n 3 rfl),
    Ob.d fun c => r_extract rfl (c.n 4 rfl) rfl,
    Ob.d fun c => r_extract rfl (c.n 4 rfl) rfl,
    Ob.d fun c => r_assign rfl (c.n 5 rfl),
    Ob.d fun c => r_assign rfl (c.n 6 rfl), trivial⟩ ?_
   intro a25 w25 τ25 st25 f25
   obtain ⟨e2, e9, e31, e32, e33, e34, -⟩ := f25.ks [(2, _), (9, _), (31, _), (32, _), (33, _), (34, _)] ⟨e2, e9, e31, e32, e33, e34, trivial⟩
   have e1 : get a25 1 = (.int .i64 ((fitsF (nth t.kids ((k : Int))) m (depthF t d)).1)) := f25.v 7 rfl
   have e10 : get a25 10 = (.bool ((fitsF (nth t.kids ((k : Int))) m (depthF t d)).2)) := f25.v 8 rfl
   replace r0 := f25.ib 0 rfl
   clear f25
   show Code.wp _ _ _ a25 w25
   refine wp_seq ?_
   refine region_St (bf := [0, 1]) (sp := [det _ 44 _, det _ 45 _]) [ib r0] mixed st25 (by kernel_rfl) ⟨r0, trivial⟩
    ⟨Ob.d fun c => r_move rfl (c.p e10),
    Ob.d fun c => r_not rfl (c.n 0 rfl), trivial⟩ ?_
   intro a26 w26 τ26 st26 f26
   obtain ⟨e1, e2, e9, e10, e31, e32, e33, e34, -⟩ := f26.ks [(1, _), (2, _), (9, _), (10, _), (31, _), (32, _), (33, _), (34, _)] ⟨e1, e2, e9, e10, e31, e32, e33, e34, trivial⟩
   have e45 : get a26 45 = (.bool (!((fitsF (nth t.kids ((k : Int))) m (depthF t d)).2))) := f26.v 1 rfl
   replace r0 := f26.ib 0 rfl
   clear f26
   show Code.wp _ _ _ a26 w26
   refine wp_cond_split (t := !((fitsF (nth t.kids ((k : Int))) m (depthF t d)).2)) e45 (fun hc7 => ?_) (fun hc7 => ?_)
   · have hd7 := hc7; try simp only [Bool.not_eq_true', Bool.not_eq_false'] at hd7
     refine wp_seq ?_
     have hbad : (fitsF (nth t.kids (k : Int)) m (depthF t d)).2 = false := by simpa using (by assumption : (!(fitsF (nth t.kids (k : Int)) m (depthF t d)).2) = true)
     refine region_St (bf := [0, 1, 3]) (sp := [det _ 46 _, det _ 6 _, det _ 7 _]) [ib r0] mixed st26 (by kernel_rfl) ⟨r0, trivial⟩
      ⟨Ob.d fun c => r_move rfl (c.p e1),
      Ob.d fun c => r_assign rfl (c.n 0 rfl),
      Ob.d fun c => r_assign rfl rfl, trivial⟩ ?_
     intro a27 w27 τ27 st27 f27
     obtain ⟨e1, e2, e9, e10, e31, e32, e33, e34, e45, -⟩ := f27.ks [(1, _), (2, _), (9, _), (10, _), (31, _), (32, _), (33, _), (34, _), (45, _)] ⟨e1, e2, e9, e10, e31, e32, e33, e34, e45, trivial⟩
     have e6 : get a27 6 = (.int .i64 ((fitsF (nth t.kids ((k : Int))) m (depthF t d)).1)) := f27.v 1 rfl
     have e7 : get a27 7 = (.bool (false)) := f27.v 2 rfl
     replace r0 := f27.ib 0 rfl
     clear f27
     show Code.wp _ _ _ a27 w27
     refine wp_ret ?_
     repeat (first | with_reducible refine then_ret ?_ | with_reducible refine block_ret ?_)
     refine ret2 (fn := Try.f34) rfl st27.defers e6 e7 ?_
     exact ⟨congrArg _ (show (Value.tuple #[(.int .i64 ((fitsF (nth t.kids ((k : Int))) m (depthF t d)).1)), (.bool (false))]) = (.tuple #[.int .i64 (fitsF t n d).1, .bool (fitsF t n d).2]) from by rw [fits_bad hcd q2 (by omega) hbad]), st27.ext0⟩
   have hd7 := hc7; try simp only [Bool.not_eq_true', Bool.not_eq_false'] at hd7
   refine wp_skip ?_
   show _
   show Code.wp _ _ _ a26 w26
   have hgood : (fitsF (nth t.kids (k : Int)) m (depthF t d)).2 = true := by simpa using (by assumption : (!(fitsF (nth t.kids (k : Int)) m (depthF t d)).2) = false)
   have hrg := fitsF_range (nth t.kids (k : Int)) (n := m) (d := depthF t d) (by omega)
   refine region_St (bf := [0, 1]) (sp := [det _ 47 _, det _ 33 _]) [ib r0] mixed st26 (by kernel_rfl) ⟨r0, trivial⟩
    ⟨Ob.d fun c => r_add rfl (c.p e33) rfl (by omega),
    Ob.d fun c => r_move rfl (c.n 0 rfl), trivial⟩ ?_
   intro a28 w28 τ28 st28 f28
   obtain ⟨e1, e2, e9, e10, e31, e32, e34, e45, -⟩ := f28.ks [(1, _), (2, _), (9, _), (10, _), (31, _), (32, _), (34, _), (45, _)] ⟨e1, e2, e9, e10, e31, e32, e34, e45, trivial⟩
   have e33 : get a28 33 = (.int .i64 ((k : Int) + 1)) := f28.v 1 rfl
   replace r0 := f28.ib 0 rfl
   clear f28
   refine ⟨⟨k + 1, (fitsF (nth t.kids (k : Int)) m (depthF t d)).1, τ28, ?_, ?_, ?_, st28, (e1.trans (int_eq (by omega))), (e33.trans (int_eq (by omega))), e2, e31, e32⟩, ?_⟩
   · omega
   · omega
   · exact fits_next q2 (by omega) hgood
   · simp only [m33, e33, intOf]; omega
 try simp only [decide_eq_false_iff_not, Int.not_lt] at hc6
 refine wp_exit ?_
 repeat (with_reducible refine then_exit ?_)
 refine exit_here ?_
 show Code.wp _ _ _ a22 w22
 refine wp_seq ?_
 refine region_St (bf := [0, 1, 3]) (sp := [det _ 48 _, det _ 6 _, det _ 7 _]) [] mixed st22 (by kernel_rfl) trivial
  ⟨Ob.d fun c => r_move rfl (c.p e1),
  Ob.d fun c => r_assign rfl (c.n 0 rfl),
  Ob.d fun c => r_assign rfl rfl, trivial⟩ ?_
 intro a29 w29 τ29 st29 f29
 have e6 : get a29 6 = (.int .i64 (m)) := f29.v 1 rfl
 have e7 : get a29 7 = (.bool (true)) := f29.v 2 rfl
 clear f29
 show Code.wp _ _ _ a29 w29
 refine wp_ret ?_
 repeat (first | with_reducible refine then_ret ?_ | with_reducible refine block_ret ?_)
 refine ret2 (fn := Try.f34) rfl st29.defers e6 e7 ?_
 exact ⟨congrArg _ (show (Value.tuple #[(.int .i64 (m)), (.bool (true))]) = (.tuple #[.int .i64 (fitsF t n d).1, .bool (fitsF t n d).2]) from by rw [fits_end hcd q2 (by omega)]), st29.ext0⟩

theorem fits_c (t : Tr) : ∀ (n d : Int) (w : World), TrS w t → wtF t ≤ 1000000 → 0 ≤ n ∧ n ≤ 1000 → 0 ≤ d ∧ d ≤ 1000 → Calls Try.prog 34 #[t.v, .int .i64 n, .int .i64 d] w (fun e w' => e = .returned (.tuple #[.int .i64 (fitsF t n d).1, .bool (fitsF t n d).2]) ∧ Ext none' w w') := Tr.ind (P := fun t => ∀ (n d : Int) (w : World), TrS w t → wtF t ≤ 1000000 → 0 ≤ n ∧ n ≤ 1000 → 0 ≤ d ∧ d ≤ 1000 → Calls Try.prog 34 #[t.v, .int .i64 n, .int .i64 d] w (fun e w' => e = .returned (.tuple #[.int .i64 (fitsF t n d).1, .bool (fitsF t n d).2]) ∧ Ext none' w w')) fits_step t

set_option maxRecDepth 100000 in
theorem may_c (t : Tr) (w : World) (hT : TrS w t) (hP : wtF t ≤ 1000000) : Calls Try.prog 20 #[(.agg #[(.int .i64 (t.k)), (.string (t.ch)), (.bool (t.ng)), t.rv.v, (.int .i64 (t.mn)), (.int .i64 (t.mx)), (.bool (t.lz)), t.kv.v])] w (fun e w' => e = .returned (.bool ((fitsF t 512 16).2)) ∧ Ext none' w w') := by
 refine enter (n := 11) Try.func20 rfl rfl (Nat.le_of_ble_eq_true rfl) ?_
 intro a0 τ0 ha st0
 have e0 : get a0 0 = (.agg #[(.int .i64 (t.k)), (.string (t.ch)), (.bool (t.ng)), t.rv.v, (.int .i64 (t.mn)), (.int .i64 (t.mx)), (.bool (t.lz)), t.kv.v]) := ha 0 _ rfl
 clear ha
 refine wp_seq ?_
 refine region_St (bf := [0, 0]) (sp := [box _ _ 0 1 [(.int .i64 (t.k)), (.string (t.ch)), (.bool (t.ng)), t.rv.v, (.int .i64 (t.mn)), (.int .i64 (t.mx)), (.bool (t.lz)), t.kv.v], det _ 2 _]) [] mixed st0 (by kernel_rfl) trivial
  ⟨Ob.box (v := (.agg #[(.int .i64 (t.k)), (.string (t.ch)), (.bool (t.ng)), t.rv.v, (.int .i64 (t.mn)), (.int .i64 (t.mx)), (.bool (t.lz)), t.kv.v])) rfl rfl rfl rfl rfl (fun _ _ _ _ c => (c.p e0)),
  Ob.d fun c => r_assign rfl rfl, trivial⟩ ?_
 intro a1 w1 τ1 st1 f1
 obtain ⟨b1x1, e1⟩ : ∃ b, get a1 1 = b := ⟨_, rfl⟩
 have e2 : get a1 2 = (.bool (false)) := f1.v 1 rfl
 have r0 : boxR 25 [(.int .i64 (t.k)), (.string (t.ch)), (.bool (t.ng)), t.rv.v, (.int .i64 (t.mn)), (.int .i64 (t.mx)), (.bool (t.lz)), t.kv.v] (τ1 0) b1x1 w1 := f1.rb 0 e1 rfl
 clear f1
 show Code.wp _ _ _ a1 w1
 refine wp_seq ?_
 refine region_St (bf := [0, 1, 3, 7, 7, 15, 63]) (sp := [det _ 6 _, det _ 7 _, det _ 5 _, det _ 8 _, det _ 9 _, det _ 3 _, det _ 4 _]) [ib r0] mixed st1 (by kernel_rfl) ⟨r0, trivial⟩
  ⟨Ob.d fun c => r_loadN (vs := [(.int .i64 (t.k)), (.string (t.ch)), (.bool (t.ng)), t.rv.v, (.int .i64 (t.mn)), (.int .i64 (t.mx)), (.bool (t.lz)), t.kv.v]) rfl Try.isAgg25 Try.sizeOf25 ((c.p e1).trans r0.ptr) rfl (fun _ _ hj => (c.ib 0 rfl).cell hj),
  Ob.c fun c => ⟨_, _, (e_call3 rfl rfl Try.call34 (c.n 0 rfl) rfl rfl), fits_c t 512 16 _ (hT.at (st1.ext.trans c.J.ext)) (by omega) (by omega) (by omega)⟩,
  Ob.d fun c => r_move rfl (c.n 1 rfl),
  Ob.d fun c => r_extract rfl (c.n 2 rfl) rfl,
  Ob.d fun c => r_extract rfl (c.n 2 rfl) rfl,
  Ob.d fun c => r_assign rfl (c.n 3 rfl),
  Ob.d fun c => r_assign rfl (c.n 4 rfl), trivial⟩ ?_
 intro a2 w2 τ2 st2 f2
 obtain ⟨e2, -⟩ := f2.ks [(2, _)] ⟨e2, trivial⟩
 have e4 : get a2 4 = (.bool ((fitsF t 512 16).2)) := f2.v 6 rfl
 clear f2
 show Code.wp _ _ _ a2 w2
 refine wp_seq ?_
 refine region_St (bf := [0, 1]) (sp := [det _ 10 _, det _ 2 _]) [] mixed st2 (by kernel_rfl) trivial
  ⟨Ob.d fun c => r_move rfl (c.p e4),
  Ob.d fun c => r_assign rfl (c.n 0 rfl), trivial⟩ ?_
 intro a3 w3 τ3 st3 f3
 have e2 : get a3 2 = (.bool ((fitsF t 512 16).2)) := f3.v 1 rfl
 clear f3
 show Code.wp _ _ _ a3 w3
 refine wp_ret ?_
 repeat (first | with_reducible refine then_ret ?_ | with_reducible refine block_ret ?_)
 refine ret1 (fn := Try.f20) rfl st3.defers e2 ?_
 exact ⟨rfl, st3.ext0⟩
end B
end Go.Proofs.Ytocmchlhbniloaa
