/-
  Own texts, put together by a program (flat.py): RdF, RdG, RdH.
-/
import Derived.Test.YtocmchlhbniloaaFt4
set_option linter.unusedSimpArgs false
set_option linter.unusedVariables false
set_option linter.unusedSectionVars false
namespace Go.Proofs.Ytocmchlhbniloaa
namespace B
open Go.RowKit
open Srt
theorem fin_bad {cs : List ByteArray} {x : Tr} {mn mx : Int} {j : Nat} (h : ((!(tkF cs j ⟨#[125]⟩)) || ((!decide (mx = -1)) && decide (mx < mn))) = true) : finF cs x mn mx true j = (leaf0, 10, tkN cs j ⟨#[125]⟩) := by
  unfold finF
  rw [if_neg (by decide)]
  cases ht : tkF cs j ⟨#[125]⟩ with
  | false => rw [if_pos rfl, tkN_f ht]
  | true =>
    rw [ht] at h
    rw [if_neg (by decide), if_pos (by simpa using h), tkN_t ht]
theorem fin_ok {cs : List ByteArray} {x : Tr} {mn mx : Int} {j : Nat} (h : ((!(tkF cs j ⟨#[125]⟩)) || ((!decide (mx = -1)) && decide (mx < mn))) = false) : finF cs x mn mx true j = lazyF cs x (j + 1) mn mx ∧ tkF cs j ⟨#[125]⟩ = true := by
  rw [Bool.or_eq_false_iff, Bool.not_eq_false'] at h
  unfold finF
  rw [if_neg (by decide), h.1, if_neg (by decide), if_neg (by rw [h.2]; decide)]
  exact ⟨rfl, rfl⟩
theorem fin_no {cs : List ByteArray} {x : Tr} {mn mx : Int} {j : Nat} : finF cs x mn mx false j = (leaf0, 10, j) := by
  unfold finF; rw [if_pos rfl]
set_option maxRecDepth 100000 in
set_option maxHeartbeats 4000000 in
theorem times_c (F : Foot) (v : Value) (cv : Sv) (cs : List ByteArray) (i : Nat) (t : Tr) (w : World) (hR : RdR 58 v cv cs i w) (hL : CsOk cs) (hi : i ≤ cs.length + 1) (hT : TrT F w t) (hFd : ∀ g, F g → ¬ ptrFoot v g) : Calls Try.prog 56 #[v, (.agg #[(.int .i64 (t.k)), (.string (t.ch)), (.bool (t.ng)), t.rv.v, (.int .i64 (t.mn)), (.int .i64 (t.mx)), (.bool (t.lz)), t.kv.v])] w (fun e w' => ∃ t' : Tr, e = .returned (.tuple #[t'.v, .int .i64 (timesF cs (er t) i).2.1]) ∧ Ext (ptrFoot v) w w' ∧ boxR 58 [cv.v, .int .i64 (((timesF cs (er t) i).2.2 : Nat) : Int)] (ptrFoot v) v w' ∧ TrT (Gn F w) w' t' ∧ er t' = (timesF cs (er t) i).1) := by
 refine enterIn (ptrFoot v) (fun g hg => hR.box.lt g hg) (n := 75) Try.func56 rfl rfl (Nat.le_of_ble_eq_true rfl) ?_
 intro a0 τ0 ha hτ st0
 have e0 : get a0 0 = v := ha 0 _ rfl
 have e1 : get a0 1 = (.agg #[(.int .i64 (t.k)), (.string (t.ch)), (.bool (t.ng)), t.rv.v, (.int .i64 (t.mn)), (.int .i64 (t.mx)), (.bool (t.lz)), t.kv.v]) := ha 1 _ rfl
 clear ha
 have hL1 := hL.1
 have r0 : boxR 58 [cv.v, .int .i64 ((i : Nat) : Int)] (τ0 0) v w := by rw [hτ]; exact hR.box
 have r9 : Fz (zSl StrE Al cv.v cs) τ0 w := hR.inz st0
 have r8 : Fz (zTr (Gn F w) t) τ0 w := hT.inT hFd st0
 refine wp_seq ?_
 refine region_St (bf := [0, 0, 0]) (sp := [box _ _ 1 3 [(.int .i64 (t.k)), (.string (t.ch)), (.bool (t.ng)), t.rv.v, (.int .i64 (t.mn)), (.int .i64 (t.mx)), (.bool (t.lz)), t.kv.v], box _ _ 2 4 [(.int .i64 (0)), (.string ((⟨#[]⟩ : ByteArray))), (.bool (false)), (.slice none 0 0), (.int .i64 (0)), (.int .i64 (0)), (.bool (false)), (.slice none 0 0)], det _ 5 _]) [ib r0, Ini.any _, Ini.any _, Ini.any _, Ini.any _, Ini.any _, Ini.any _, Ini.any _, iz r8, iz r9] mixed st0 (by kernel_rfl) ⟨r0, trivial, trivial, trivial, trivial, trivial, trivial, trivial, r8, r9, trivial⟩
  ⟨Ob.box (v := (.agg #[(.int .i64 (t.k)), (.string (t.ch)), (.bool (t.ng)), t.rv.v, (.int .i64 (t.mn)), (.int .i64 (t.mx)), (.bool (t.lz)), t.kv.v])) rfl rfl rfl rfl rfl (fun _ _ _ _ c => (c.p e1)),
  Ob.alloc rfl rfl rfl rfl Try.zeroValue25 rfl,
  Ob.d fun c => r_assign rfl rfl, trivial⟩ ?_
 intro a1 w1 τ1 st1 f1
 obtain ⟨b1x3, e3⟩ : ∃ b, get a1 3 = b := ⟨_, rfl⟩
 obtain ⟨b1x4, e4⟩ : ∃ b, get a1 4 = b := ⟨_, rfl⟩
 obtain ⟨e0, -⟩ := f1.ks [(0, _)] ⟨e0, trivial⟩
 have e5 : get a1 5 = (.int .i64 (0)) := f1.v 2 rfl
 replace r0 := f1.ib 0 rfl
 have r1 : boxR 25 [(.int .i64 (t.k)), (.string (t.ch)), (.bool (t.ng)), t.rv.v, (.int .i64 (t.mn)), (.int .i64 (t.mx)), (.bool (t.lz)), t.kv.v] (τ1 1) b1x3 w1 := f1.rb 0 e3 rfl
 have r2 : boxR 25 [(.int .i64 (0)), (.string ((⟨#[]⟩ : ByteArray))), (.bool (false)), (.slice none 0 0), (.int .i64 (0)), (.int .i64 (0)), (.bool (false)), (.slice none 0 0)] (τ1 2) b1x4 w1 := f1.rb 1 e4 rfl
 replace r8 := f1.iz 8 rfl
 replace r9 := f1.iz 9 rfl
 clear f1
 show Code.wp _ _ _ a1 w1
 refine wp_seq ?_
 refine region_of_ops ?_
 refine ops_cut 2 (by kernel_rfl) ?_
 refine ops_St (bf := [0, 1]) (sp := [det _ 9 _, gzdet _ 10 (True) (fun b : Sv => b.v) (fun _ => True) (fun b : Sv => zSl TrE (Gn F w) b.v [t])]) [ib r0, ib r1, ib r2, Ini.any _, Ini.any _, Ini.any _, Ini.any _, Ini.any _, iz r8, iz r9] st1 (by kernel_rfl) ⟨r0, r1, r2, trivial, trivial, trivial, trivial, trivial, r8, r9, trivial⟩
  ⟨Ob.d fun c => r_loadN (vs := [(.int .i64 (t.k)), (.string (t.ch)), (.bool (t.ng)), t.rv.v, (.int .i64 (t.mn)), (.int .i64 (t.mx)), (.bool (t.lz)), t.kv.v]) rfl Try.isAgg25 Try.sizeOf25 ((c.p e3).trans r1.ptr) rfl (fun _ _ hj => (c.ib 1 rfl).cell hj),
  Ob.gzSl (E := TrE) (xs := [t]) (cells := #[(.int .i64 (t.k)), (.string (t.ch)), (.bool (t.ng)), t.rv.v, (.int .i64 (t.mn)), (.int .i64 (t.mx)), (.bool (t.lz)), t.kv.v]) st1 gd0 rfl Try.underlying23 Try.sizeOf25 Try.zeroValue25 (by decide) (by decide) rfl rfl fun c hpc => fill1 (c.n 0 rfl) (by kernel_rfl), trivial⟩ ?_
 intro a2 w2 τ2 st2 f2
 obtain ⟨e0, e3, e4, e5, -⟩ := f2.ks [(0, _), (3, _), (4, _), (5, _)] ⟨e0, e3, e4, e5, trivial⟩
 obtain ⟨kv1_, e10, -, hz2⟩ := f2.gzd 1 rfl trivial
 replace r0 := f2.ib 0 rfl
 replace r1 := f2.ib 1 rfl
 replace r2 := f2.ib 2 rfl
 replace r8 := f2.iz 8 rfl
 replace r9 := f2.iz 9 rfl
 have r3 : Fz (zSl TrE (Gn F w) kv1_.v [t]) τ2 w2 := hz2
 clear f2
 refine only_mk ?_
 refine ops_St (bf := [0, 1, 3]) (sp := [det _ 11 _, box _ _ 4 6 [(.int .i64 (0)), (.string ((⟨#[]⟩ : ByteArray))), (.bool (false)), (.slice none 0 0), (.int .i64 (0)), (.int .i64 (0)), (.bool (false)), (.slice none 0 0)], box _ _ 4 6 [(.int .i64 (7)), (.string ((⟨#[]⟩ : ByteArray))), (.bool (false)), (.slice none 0 0), (.int .i64 (0)), (.int .i64 ((-1))), (.bool (false)), kv1_.v]]) [ib r0, ib r1, ib r2, iz r3, Ini.any _, Ini.any _, Ini.any _, Ini.any _, iz r8, iz r9] st2 (by kernel_rfl) ⟨r0, r1, r2, r3, trivial, trivial, trivial, trivial, r8, r9, trivial⟩
  ⟨Ob.d fun c => r_build (cells := #[(.int .i64 (7)), (.string ((⟨#[]⟩ : ByteArray))), (.bool (false)), (.slice none 0 0), (.int .i64 (0)), (.int .i64 ((-1))), (.bool (false)), kv1_.v]) rfl Try.underlying25 Try.zeroValue25 (pl := #[(0, 1), (1, 1), (2, 1), (3, 1), (4, 1), (5, 1), (6, 1), (7, 1)]) (fun w_ => by simp [Try.sizeOf22, Try.sizeOf23, Try.sizeOf3, Try.sizeOf4, Try.sizeOf9]) (fill3 rfl rfl (c.p e10) rfl),
  Ob.alloc rfl rfl rfl rfl Try.zeroValue25 rfl,
  Ob.storeBox (off := 0) (v := (.agg #[(.int .i64 (7)), (.string ((⟨#[]⟩ : ByteArray))), (.bool (false)), (.slice none 0 0), (.int .i64 (0)), (.int .i64 ((-1))), (.bool (false)), kv1_.v])) rfl rfl rfl rfl Try.sizeOf25 (Nat.le_of_ble_eq_true rfl) (by simp [Value.cells, Value.oneCell', Sv.v]) rfl (fun _ _ _ _ c => ⟨c.rb 1 rfl, (c.rb 1 rfl).ptr, (c.n 0 rfl)⟩), trivial⟩ ?_
 intro a3 w3 τ3 st3 f3
 obtain ⟨b3x6, e6⟩ : ∃ b, get a3 6 = b := ⟨_, rfl⟩
 obtain ⟨e0, e3, e4, e5, -⟩ := f3.ks [(0, _), (3, _), (4, _), (5, _)] ⟨e0, e3, e4, e5, trivial⟩
 replace r0 := f3.ib 0 rfl
 replace r1 := f3.ib 1 rfl
 replace r2 := f3.ib 2 rfl
 replace r3 := f3.iz 3 rfl
 have r4 : boxR 25 [(.int .i64 (7)), (.string ((⟨#[]⟩ : ByteArray))), (.bool (false)), (.slice none 0 0), (.int .i64 (0)), (.int .i64 ((-1))), (.bool (false)), kv1_.v] (τ3 4) b3x6 w3 := f3.rb 2 e6 rfl
 replace r8 := f3.iz 8 rfl
 replace r9 := f3.iz 9 rfl
 clear f3
 show Code.wp _ _ _ a3 w3
 refine wp_seq ?_
 refine wp_block ?_
 refine wp_seq ?_
 refine region_St (bf := [0, 1, 3]) (sp := [det _ 14 _, dbox 58 _ 0 15 v [cv.v, (.int .i64 (((tkN cs i (⟨#[42]⟩ : ByteArray) : Nat) : Int)))] (.bool (tkF cs i (⟨#[42]⟩ : ByteArray))), det _ 13 _]) [ib r0, ib r1, ib r2, iz r3, ib r4, Ini.any _, Ini.any _, Ini.any _, iz r8, iz r9] mixed st3 (by kernel_rfl) ⟨r0, r1, r2, r3, r4, trivial, trivial, trivial, r8, r9, trivial⟩
  ⟨Ob.d fun c => r_move rfl (c.p e0),
  Ob.db fun {_ a_ _ _} c => ⟨_, _, (e_call2 rfl rfl Try.call49 (c.n 0 rfl) rfl), db_of (c.ib 0 rfl) (take_c v cv cs i (⟨#[42]⟩ : ByteArray) _ (rdr (c.ib 0 rfl) (c.iz 9 rfl) (fun g_ h_ hz_ => hz_.2 _ h_)) hL (by omega))⟩,
  Ob.d fun c => r_assign rfl (c.dv 1 rfl), trivial⟩ ?_
 intro a4 w4 τ4 st4 f4
 obtain ⟨e0, e3, e4, e5, e6, -⟩ := f4.ks [(0, _), (3, _), (4, _), (5, _), (6, _)] ⟨e0, e3, e4, e5, e6, trivial⟩
 have e13 : get a4 13 = (.bool (tkF cs i (⟨#[42]⟩ : ByteArray))) := f4.v 2 rfl
 replace r0 : boxR 58 [cv.v, (.int .i64 (((tkN cs i (⟨#[42]⟩ : ByteArray) : Nat) : Int)))] (τ4 0) v w4 := f4.db 1 rfl
 replace r1 := f4.ib 1 rfl
 replace r2 := f4.ib 2 rfl
 replace r3 := f4.iz 3 rfl
 replace r4 := f4.ib 4 rfl
 replace r8 := f4.iz 8 rfl
 replace r9 := f4.iz 9 rfl
 clear f4
 show Code.wp _ _ _ a4 w4
 refine wp_cond_split (t := tkF cs i (⟨#[42]⟩ : ByteArray)) e13 (fun hc1 => ?_) (fun hc1 => ?_)
 · skip
   have htk1 : tkF cs i (⟨#[42]⟩ : ByteArray) = true := hc1
   have htl1 := tk_lt htk1
   rw [tkN_t htk1] at r0
   refine wp_skip ?_
   show _
   show Code.wp _ _ _ a4 w4
   refine wp_seq ?_
   refine region_St (bf := [0, 1, 3, 7]) (sp := [det _ 71 _, dbox 58 _ 0 72 v [cv.v, (.int .i64 (((tkN cs (i + 1) (⟨#[63]⟩ : ByteArray) : Nat) : Int)))] (.bool (tkF cs (i + 1) (⟨#[63]⟩ : ByteArray))), det _ 73 _, box _ _ 4 6 [(.int .i64 (7)), (.string ((⟨#[]⟩ : ByteArray))), (.bool (false)), (.slice none 0 0), (.int .i64 (0)), (.int .i64 ((-1))), (.bool (tkF cs (i + 1) (⟨#[63]⟩ : ByteArray))), kv1_.v]]) [ib r0, ib r1, ib r2, iz r3, ib r4, Ini.any _, Ini.any _, Ini.any _, iz r8, iz r9] mixed st4 (by kernel_rfl) ⟨r0, r1, r2, r3, r4, trivial, trivial, trivial, r8, r9, trivial⟩
    ⟨Ob.d fun c => r_move rfl (c.p e0),
    Ob.db fun {_ a_ _ _} c => ⟨_, _, (e_call2 rfl rfl Try.call49 (c.n 0 rfl) rfl), db_of (c.ib 0 rfl) (take_c v cv cs (i + 1) (⟨#[63]⟩ : ByteArray) _ (rdr (c.ib 0 rfl) (c.iz 9 rfl) (fun g_ h_ hz_ => hz_.2 _ h_)) hL (by omega))⟩,
    Ob.d fun c => r_fieldAddr rfl Try.underlying25 rfl rfl Try.sizeOf4 ((c.p e6).trans r4.ptr),
    Ob.storeBox (off := 6) (v := (.bool (tkF cs (i + 1) (⟨#[63]⟩ : ByteArray)))) rfl rfl rfl rfl Try.sizeOf4 (Nat.le_of_ble_eq_true rfl) (by simp [Value.cells, Value.oneCell', Sv.v]) rfl (fun _ _ _ _ c => ⟨c.bp 4 rfl e6, c.ad (c.n 2 rfl) e6 rfl, (c.dv 1 rfl)⟩), trivial⟩ ?_
   intro a5 w5 τ5 st5 f5
   obtain ⟨e0, e4, e5, e6, -⟩ := f5.ks [(0, _), (4, _), (5, _), (6, _)] ⟨e0, e4, e5, e6, trivial⟩
   replace r0 : boxR 58 [cv.v, (.int .i64 (((tkN cs (i + 1) (⟨#[63]⟩ : ByteArray) : Nat) : Int)))] (τ5 0) v w5 := f5.db 1 rfl
   replace r2 := f5.ib 2 rfl
   replace r3 := f5.iz 3 rfl
   replace r4 : boxR 25 [(.int .i64 (7)), (.string ((⟨#[]⟩ : ByteArray))), (.bool (false)), (.slice none 0 0), (.int .i64 (0)), (.int .i64 ((-1))), (.bool (tkF cs (i + 1) (⟨#[63]⟩ : ByteArray))), kv1_.v] (τ5 4) b3x6 w5 := f5.rb 3 e6 rfl
   replace r8 := f5.iz 8 rfl
   replace r9 := f5.iz 9 rfl
   clear f5
   show Code.wp _ _ _ a5 w5
   refine wp_seq ?_
   refine region_St (bf := [0, 1, 3]) (sp := [det _ 74 _, box _ _ 2 4 [(.int .i64 (7)), (.string ((⟨#[]⟩ : ByteArray))), (.bool (false)), (.slice none 0 0), (.int .i64 (0)), (.int .i64 ((-1))), (.bool (tkF cs (i + 1) (⟨#[63]⟩ : ByteArray))), kv1_.v], det _ 5 _]) [ib r0, Ini.any _, ib r2, iz r3, ib r4, Ini.any _, Ini.any _, Ini.any _, iz r8, iz r9] mixed st5 (by kernel_rfl) ⟨r0, trivial, r2, r3, r4, trivial, trivial, trivial, r8, r9, trivial⟩
    ⟨Ob.d fun c => r_loadN (vs := [(.int .i64 (7)), (.string ((⟨#[]⟩ : ByteArray))), (.bool (false)), (.slice none 0 0), (.int .i64 (0)), (.int .i64 ((-1))), (.bool (tkF cs (i + 1) (⟨#[63]⟩ : ByteArray))), kv1_.v]) rfl Try.isAgg25 Try.sizeOf25 ((c.p e6).trans r4.ptr) rfl (fun _ _ hj => (c.ib 4 rfl).cell hj),
    Ob.storeBox (off := 0) (v := (.agg #[(.int .i64 (7)), (.string ((⟨#[]⟩ : ByteArray))), (.bool (false)), (.slice none 0 0), (.int .i64 (0)), (.int .i64 ((-1))), (.bool (tkF cs (i + 1) (⟨#[63]⟩ : ByteArray))), kv1_.v])) rfl rfl rfl rfl Try.sizeOf25 (Nat.le_of_ble_eq_true rfl) (by simp [Value.cells, Value.oneCell', Sv.v]) rfl (fun _ _ _ _ c => ⟨c.bp 2 rfl e4, c.ad ((c.p e4).trans r2.ptr) e4 rfl, (c.n 0 rfl)⟩),
    Ob.d fun c => r_assign rfl rfl, trivial⟩ ?_
   intro a6 w6 τ6 st6 f6
   obtain ⟨e0, e4, -⟩ := f6.ks [(0, _), (4, _)] ⟨e0, e4, trivial⟩
   have e5 : get a6 5 = (.int .i64 (0)) := f6.v 2 rfl
   replace r0 := f6.ib 0 rfl
   replace r2 : boxR 25 [(.int .i64 (7)), (.string ((⟨#[]⟩ : ByteArray))), (.bool (false)), (.slice none 0 0), (.int .i64 (0)), (.int .i64 ((-1))), (.bool (tkF cs (i + 1) (⟨#[63]⟩ : ByteArray))), kv1_.v] (τ6 2) b1x4 w6 := f6.rb 1 e4 rfl
   replace r3 := f6.iz 3 rfl
   replace r8 := f6.iz 8 rfl
   replace r9 := f6.iz 9 rfl
   clear f6
   show Code.wp _ _ _ a6 w6
   refine wp_ret ?_
   repeat (first | with_reducible refine then_ret ?_ | with_reducible refine block_ret ?_)
   refine ret2c (fn := Try.f56) rfl st6.defers e4 e5 r2 Try.isAgg25 Try.sizeOf25 rfl ?_
   have he_ : timesF cs (er t) i = ((nodeT 7 (⟨#[]⟩ : ByteArray) false 0 (-1) (tkF cs (i + 1) (⟨#[63]⟩ : ByteArray)) Sv.nil [er t]), 0, tkN cs (i + 1) (⟨#[63]⟩ : ByteArray)) := by unfold timesF; (repeat (first | rw [if_neg (by first | assumption | (simp only [Bool.not_eq_true]; assumption) | (simp only [Bool.not_eq_false]; assumption) | (exact fun h_ => h_ (by assumption)) | omega)] | rw [if_pos (by first | assumption | omega)])); (try (first | first | exact fin_no | exact fin_bad (by assumption) | (rw [(fin_ok (by assumption)).1]; rfl) | rfl | (rw [(by assumption : numB (numF cs ((numF cs (i + 1)).2.2 + 1)) = true)]; first | exact fin_no | exact fin_bad (by assumption) | (rw [(fin_ok (by assumption)).1]; rfl) | rfl) | (rw [(by assumption : numB (numF cs ((numF cs (i + 1)).2.2 + 1)) = false)]; first | exact fin_no | exact fin_bad (by assumption) | (rw [(fin_ok (by assumption)).1]; rfl) | rfl)))
   rw [he_]
   exact ⟨(nodeT 7 (⟨#[]⟩ : ByteArray) false 0 (-1) (tkF cs (i + 1) (⟨#[63]⟩ : ByteArray)) kv1_ [t]), rfl, st6.extIn, r0.foot, (Fz.out (nodeZ r3 (zcons r8 znil))), er_node _ _ _ _ _ _ _ _⟩
 skip
 have htk1 : tkF cs i (⟨#[42]⟩ : ByteArray) = false := hc1
 rw [tkN_f htk1] at r0
 refine wp_seq ?_
 refine region_St (bf := [0, 1, 3]) (sp := [det _ 17 _, dbox 58 _ 0 18 v [cv.v, (.int .i64 (((tkN cs i (⟨#[43]⟩ : ByteArray) : Nat) : Int)))] (.bool (tkF cs i (⟨#[43]⟩ : ByteArray))), det _ 16 _]) [ib r0, ib r1, ib r2, iz r3, ib r4, Ini.any _, Ini.any _, Ini.any _, iz r8, iz r9] mixed st4 (by kernel_rfl) ⟨r0, r1, r2, r3, r4, trivial, trivial, trivial, r8, r9, trivial⟩
  ⟨Ob.d fun c => r_move rfl (c.p e0),
  Ob.db fun {_ a_ _ _} c => ⟨_, _, (e_call2 rfl rfl Try.call49 (c.n 0 rfl) rfl), db_of (c.ib 0 rfl) (take_c v cv cs i (⟨#[43]⟩ : ByteArray) _ (rdr (c.ib 0 rfl) (c.iz 9 rfl) (fun g_ h_ hz_ => hz_.2 _ h_)) hL (by omega))⟩,
  Ob.d fun c => r_assign rfl (c.dv 1 rfl), trivial⟩ ?_
 intro a7 w7 τ7 st7 f7
 obtain ⟨e0, e3, e4, e5, e6, -⟩ := f7.ks [(0, _), (3, _), (4, _), (5, _), (6, _)] ⟨e0, e3, e4, e5, e6, trivial⟩
 have e16 : get a7 16 = (.bool (tkF cs i (⟨#[43]⟩ : ByteArray))) := f7.v 2 rfl
 replace r0 : boxR 58 [cv.v, (.int .i64 (((tkN cs i (⟨#[43]⟩ : ByteArray) : Nat) : Int)))] (τ7 0) v w7 := f7.db 1 rfl
 replace r1 := f7.ib 1 rfl
 replace r2 := f7.ib 2 rfl
 replace r3 := f7.iz 3 rfl
 replace r4 := f7.ib 4 rfl
 replace r8 := f7.iz 8 rfl
 replace r9 := f7.iz 9 rfl
 clear f7
 show Code.wp _ _ _ a7 w7
 refine wp_cond_split (t := tkF cs i (⟨#[43]⟩ : ByteArray)) e16 (fun hc2 => ?_) (fun hc2 => ?_)
 · skip
   have htk2 : tkF cs i (⟨#[43]⟩ : ByteArray) = true := hc2
   have htl2 := tk_lt htk2
   rw [tkN_t htk2] at r0
   refine region_St (bf := [0, 1]) (sp := [det _ 19 _, box _ _ 4 6 [(.int .i64 (7)), (.string ((⟨#[]⟩ : ByteArray))), (.bool (false)), (.slice none 0 0), (.int .i64 (1)), (.int .i64 ((-1))), (.bool (false)), kv1_.v]]) [ib r0, ib r1, ib r2, iz r3, ib r4, Ini.any _, Ini.any _, Ini.any _, iz r8, iz r9] mixed st7 (by kernel_rfl) ⟨r0, r1, r2, r3, r4, trivial, trivial, trivial, r8, r9, trivial⟩
    ⟨Ob.d fun c => r_fieldAddr rfl Try.underlying25 rfl rfl Try.sizeOf3 ((c.p e6).trans r4.ptr),
    Ob.storeBox (off := 4) (v := (.int .i64 (1))) rfl rfl rfl rfl Try.sizeOf3 (Nat.le_of_ble_eq_true rfl) (by simp [Value.cells, Value.oneCell', Sv.v]) rfl (fun _ _ _ _ c => ⟨c.bp 4 rfl e6, c.ad (c.n 0 rfl) e6 rfl, rfl⟩), trivial⟩ ?_
   intro a8 w8 τ8 st8 f8
   obtain ⟨e0, e3, e4, e5, e6, -⟩ := f8.ks [(0, _), (3, _), (4, _), (5, _), (6, _)] ⟨e0, e3, e4, e5, e6, trivial⟩
   replace r0 := f8.ib 0 rfl
   replace r1 := f8.ib 1 rfl
   replace r2 := f8.ib 2 rfl
   replace r3 := f8.iz 3 rfl
   replace r4 : boxR 25 [(.int .i64 (7)), (.string ((⟨#[]⟩ : ByteArray))), (.bool (false)), (.slice none 0 0), (.int .i64 (1)), (.int .i64 ((-1))), (.bool (false)), kv1_.v] (τ8 4) b3x6 w8 := f8.rb 1 e6 rfl
   replace r8 := f8.iz 8 rfl
   replace r9 := f8.iz 9 rfl
   clear f8
   show _
   show Code.wp _ _ _ a8 w8
   refine wp_seq ?_
   refine region_St (bf := [0, 1, 3, 7]) (sp := [det _ 71 _, dbox 58 _ 0 72 v [cv.v, (.int .i64 (((tkN cs (i + 1) (⟨#[63]⟩ : ByteArray) : Nat) : Int)))] (.bool (tkF cs (i + 1) (⟨#[63]⟩ : ByteArray))), det _ 73 _, box _ _ 4 6 [(.int .i64 (7)), (.string ((⟨#[]⟩ : ByteArray))), (.bool (false)), (.slice none 0 0), (.int .i64 (1)), (.int .i64 ((-1))), (.bool (tkF cs (i + 1) (⟨#[63]⟩ : ByteArray))), kv1_.v]]) [ib r0, ib r1, ib r2, iz r3, ib r4, Ini.any _, Ini.any _, Ini.any _, iz r8, iz r9] mixed st8 (by kernel_rfl) ⟨r0, r1, r2, r3, r4, trivial, trivial, trivial, r8, r9, trivial⟩
    ⟨Ob.d fun c => r_move rfl (c.p e0),
    Ob.db fun {_ a_ _ _} c => ⟨_, _, (e_call2 rfl rfl Try.call49 (c.n 0 rfl) rfl), db_of (c.ib 0 rfl) (take_c v cv cs (i + 1) (⟨#[63]⟩ : ByteArray) _ (rdr (c.ib 0 rfl) (c.iz 9 rfl) (fun g_ h_ hz_ => hz_.2 _ h_)) hL (by omega))⟩,
    Ob.d fun c => r_fieldAddr rfl Try.underlying25 rfl rfl Try.sizeOf4 ((c.p e6).trans r4.ptr),
    Ob.storeBox (off := 6) (v := (.bool (tkF cs (i + 1) (⟨#[63]⟩ : ByteArray)))) rfl rfl rfl rfl Try.sizeOf4 (Nat.le_of_ble_eq_true rfl) (by simp [Value.cells, Value.oneCell', Sv.v]) rfl (fun _ _ _ _ c => ⟨c.bp 4 rfl e6, c.ad (c.n 2 rfl) e6 rfl, (c.dv 1 rfl)⟩), trivial⟩ ?_
   intro a9 w9 τ9 st9 f9
   obtain ⟨e0, e4, e5, e6, -⟩ := f9.ks [(0, _), (4, _), (5, _), (6, _)] ⟨e0, e4, e5, e6, trivial⟩
   replace r0 : boxR 58 [cv.v, (.int .i64 (((tkN cs (i + 1) (⟨#[63]⟩ : ByteArray) : Nat) : Int)))] (τ9 0) v w9 := f9.db 1 rfl
   replace r2 := f9.ib 2 rfl
   replace r3 := f9.iz 3 rfl
   replace r4 : boxR 25 [(.int .i64 (7)), (.string ((⟨#[]⟩ : ByteArray))), (.bool (false)), (.slice none 0 0), (.int .i64 (1)), (.int .i64 ((-1))), (.bool (tkF cs (i + 1) (⟨#[63]⟩ : ByteArray))), kv1_.v] (τ9 4) b3x6 w9 := f9.rb 3 e6 rfl
   replace r8 := f9.iz 8 rfl
   replace r9 := f9.iz 9 rfl
   clear f9
   show Code.wp _ _ _ a9 w9
   refine wp_seq ?_
   refine region_St (bf := [0, 1, 3]) (sp := [det _ 74 _, box _ _ 2 4 [(.int .i64 (7)), (.string ((⟨#[]⟩ : ByteArray))), (.bool (false)), (.slice none 0 0), (.int .i64 (1)), (.int .i64 ((-1))), (.bool (tkF cs (i + 1) (⟨#[63]⟩ : ByteArray))), kv1_.v], det _ 5 _]) [ib r0, Ini.any _, ib r2, iz r3, ib r4, Ini.any _, Ini.any _, Ini.any _, iz r8, iz r9] mixed st9 (by kernel_rfl) ⟨r0, trivial, r2, r3, r4, trivial, trivial, trivial, r8, r9, trivial⟩
    ⟨Ob.d fun c => r_loadN (vs := [(.int .i64 (7)), (.string ((⟨#[]⟩ : ByteArray))), (.bool (false)), (.slice none 0 0), (.int .i64 (1)), (.int .i64 ((-1))), (.bool (tkF cs (i + 1) (⟨#[63]⟩ : ByteArray))), kv1_.v]) rfl Try.isAgg25 Try.sizeOf25 ((c.p e6).trans r4.ptr) rfl (fun _ _ hj => (c.ib 4 rfl).cell hj),
    Ob.storeBox (off := 0) (v := (.agg #[(.int .i64 (7)), (.string ((⟨#[]⟩ : ByteArray))), (.bool (false)), (.slice none 0 0), (.int .i64 (1)), (.int .i64 ((-1))), (.bool (tkF cs (i + 1) (⟨#[63]⟩ : ByteArray))), kv1_.v])) rfl rfl rfl rfl Try.sizeOf25 (Nat.le_of_ble_eq_true rfl) (by simp [Value.cells, Value.oneCell', Sv.v]) rfl (fun _ _ _ _ c => ⟨c.bp 2 rfl e4, c.ad ((c.p e4).trans r2.ptr) e4 rfl, (c.n 0 rfl)⟩),
    Ob.d fun c => r_assign rfl rfl, trivial⟩ ?_
   intro a10 w10 τ10 st10 f10
   obtain ⟨e0, e4, -⟩ := f10.ks [(0, _), (4, _)] ⟨e0, e4, trivial⟩
   have e5 : get a10 5 = (.int .i64 (0)) := f10.v 2 rfl
   replace r0 := f10.ib 0 rfl
   replace r2 : boxR 25 [(.int .i64 (7)), (.string ((⟨#[]⟩ : ByteArray))), (.bool (false)), (.slice none 0 0), (.int .i64 (1)), (.int .i64 ((-1))), (.bool (tkF cs (i + 1) (⟨#[63]⟩ : ByteArray))), kv1_.v] (τ10 2) b1x4 w10 := f10.rb 1 e4 rfl
   replace r3 := f10.iz 3 rfl
   replace r8 := f10.iz 8 rfl
   replace r9 := f10.iz 9 rfl
   clear f10
   show Code.wp _ _ _ a10 w10
   refine wp_ret ?_
   repeat (first | with_reducible refine then_ret ?_ | with_reducible refine block_ret ?_)
   refine ret2c (fn := Try.f56) rfl st10.defers e4 e5 r2 Try.isAgg25 Try.sizeOf25 rfl ?_
   have he_ : timesF cs (er t) i = ((nodeT 7 (⟨#[]⟩ : ByteArray) false 1 (-1) (tkF cs (i + 1) (⟨#[63]⟩ : ByteArray)) Sv.nil [er t]), 0, tkN cs (i + 1) (⟨#[63]⟩ : ByteArray)) := by unfold timesF; (repeat (first | rw [if_neg (by first | assumption | (simp only [Bool.not_eq_true]; assumption) | (simp only [Bool.not_eq_false]; assumption) | (exact fun h_ => h_ (by assumption)) | omega)] | rw [if_pos (by first | assumption | omega)])); (try (first | first | exact fin_no | exact fin_bad (by assumption) | (rw [(fin_ok (by assumption)).1]; rfl) | rfl | (rw [(by assumption : numB (numF cs ((numF cs (i + 1)).2.2 + 1)) = true)]; first | exact fin_no | exact fin_bad (by assumption) | (rw [(fin_ok (by assumption)).1]; rfl) | rfl) | (rw [(by assumption : numB (numF cs ((numF cs (i + 1)).2.2 + 1)) = false)]; first | exact fin_no | exact fin_bad (by assumption) | (rw [(fin_ok (by assumption)).1]; rfl) | rfl)))
   rw [he_]
   exact ⟨(nodeT 7 (⟨#[]⟩ : ByteArray) false 1 (-1) (tkF cs (i + 1) (⟨#[63]⟩ : ByteArray)) kv1_ [t]), rfl, st10.extIn, r0.foot, (Fz.out (nodeZ r3 (zcons r8 znil))), er_node _ _ _ _ _ _ _ _⟩
 skip
 have htk2 : tkF cs i (⟨#[43]⟩ : ByteArray) = false := hc2
 rw [tkN_f htk2] at r0
 refine wp_seq ?_
 refine region_St (bf := [0, 1, 3]) (sp := [det _ 21 _, dbox 58 _ 0 22 v [cv.v, (.int .i64 (((tkN cs i (⟨#[63]⟩ : ByteArray) : Nat) : Int)))] (.bool (tkF cs i (⟨#[63]⟩ : ByteArray))), det _ 20 _]) [ib r0, ib r1, ib r2, iz r3, ib r4, Ini.any _, Ini.any _, Ini.any _, iz r8, iz r9] mixed st7 (by kernel_rfl) ⟨r0, r1, r2, r3, r4, trivial, trivial, trivial, r8, r9, trivial⟩
  ⟨Ob.d fun c => r_move rfl (c.p e0),
  Ob.db fun {_ a_ _ _} c => ⟨_, _, (e_call2 rfl rfl Try.call49 (c.n 0 rfl) rfl), db_of (c.ib 0 rfl) (take_c v cv cs i (⟨#[63]⟩ : ByteArray) _ (rdr (c.ib 0 rfl) (c.iz 9 rfl) (fun g_ h_ hz_ => hz_.2 _ h_)) hL (by omega))⟩,
  Ob.d fun c => r_assign rfl (c.dv 1 rfl), trivial⟩ ?_
 intro a11 w11 τ11 st11 f11
 obtain ⟨e0, e3, e4, e5, e6, -⟩ := f11.ks [(0, _), (3, _), (4, _), (5, _), (6, _)] ⟨e0, e3, e4, e5, e6, trivial⟩
 have e20 : get a11 20 = (.bool (tkF cs i (⟨#[63]⟩ : ByteArray))) := f11.v 2 rfl
 replace r0 : boxR 58 [cv.v, (.int .i64 (((tkN cs i (⟨#[63]⟩ : ByteArray) : Nat) : Int)))] (τ11 0) v w11 := f11.db 1 rfl
 replace r1 := f11.ib 1 rfl
 replace r2 := f11.ib 2 rfl
 replace r3 := f11.iz 3 rfl
 replace r4 := f11.ib 4 rfl
 replace r8 := f11.iz 8 rfl
 replace r9 := f11.iz 9 rfl
 clear f11
 show Code.wp _ _ _ a11 w11
 refine wp_cond_split (t := tkF cs i (⟨#[63]⟩ : ByteArray)) e20 (fun hc3 => ?_) (fun hc3 => ?_)
 · skip
   have htk3 : tkF cs i (⟨#[63]⟩ : ByteArray) = true := hc3
   have htl3 := tk_lt htk3
   rw [tkN_t htk3] at r0
   refine region_St (bf := [0, 1]) (sp := [det _ 23 _, box _ _ 4 6 [(.int .i64 (7)), (.string ((⟨#[]⟩ : ByteArray))), (.bool (false)), (.slice none 0 0), (.int .i64 (0)), (.int .i64 (1)), (.bool (false)), kv1_.v]]) [ib r0, ib r1, ib r2, iz r3, ib r4, Ini.any _, Ini.any _, Ini.any _, iz r8, iz r9] mixed st11 (by kernel_rfl) ⟨r0, r1, r2, r3, r4, trivial, trivial, trivial, r8, r9, trivial⟩
    ⟨Ob.d fun c => r_fieldAddr rfl Try.underlying25 rfl rfl Try.sizeOf3 ((c.p e6).trans r4.ptr),
    Ob.storeBox (off := 5) (v := (.int .i64 (1))) rfl rfl rfl rfl Try.sizeOf3 (Nat.le_of_ble_eq_true rfl) (by simp [Value.cells, Value.oneCell', Sv.v]) rfl (fun _ _ _ _ c => ⟨c.bp 4 rfl e6, c.ad (c.n 0 rfl) e6 rfl, rfl⟩), trivial⟩ ?_
   intro a12 w12 τ12 st12 f12
   obtain ⟨e0, e3, e4, e5, e6, -⟩ := f12.ks [(0, _), (3, _), (4, _), (5, _), (6, _)] ⟨e0, e3, e4, e5, e6, trivial⟩
   replace r0 := f12.ib 0 rfl
   replace r1 := f12.ib 1 rfl
   replace r2 := f12.ib 2 rfl
   replace r3 := f12.iz 3 rfl
   replace r4 : boxR 25 [(.int .i64 (7)), (.string ((⟨#[]⟩ : ByteArray))), (.bool (false)), (.slice none 0 0), (.int .i64 (0)), (.int .i64 (1)), (.bool (false)), kv1_.v] (τ12 4) b3x6 w12 := f12.rb 1 e6 rfl
   replace r8 := f12.iz 8 rfl
   replace r9 := f12.iz 9 rfl
   clear f12
   show _
   show Code.wp _ _ _ a12 w12
   refine wp_seq ?_
   refine region_St (bf := [0, 1, 3, 7]) (sp := [det _ 71 _, dbox 58 _ 0 72 v [cv.v, (.int .i64 (((tkN cs (i + 1) (⟨#[63]⟩ : ByteArray) : Nat) : Int)))] (.bool (tkF cs (i + 1) (⟨#[63]⟩ : ByteArray))), det _ 73 _, box _ _ 4 6 [(.int .i64 (7)), (.string ((⟨#[]⟩ : ByteArray))), (.bool (false)), (.slice none 0 0), (.int .i64 (0)), (.int .i64 (1)), (.bool (tkF cs (i + 1) (⟨#[63]⟩ : ByteArray))), kv1_.v]]) [ib r0, ib r1, ib r2, iz r3, ib r4, Ini.any _, Ini.any _, Ini.any _, iz r8, iz r9] mixed st12 (by kernel_rfl) ⟨r0, r1, r2, r3, r4, trivial, trivial, trivial, r8, r9, trivial⟩
    ⟨Ob.d fun c => r_move rfl (c.p e0),
    Ob.db fun {_ a_ _ _} c => ⟨_, _, (e_call2 rfl rfl Try.call49 (c.n 0 rfl) rfl), db_of (c.ib 0 rfl) (take_c v cv cs (i + 1) (⟨#[63]⟩ : ByteArray) _ (rdr (c.ib 0 rfl) (c.iz 9 rfl) (fun g_ h_ hz_ => hz_.2 _ h_)) hL (by omega))⟩,
    Ob.d fun c => r_fieldAddr rfl Try.underlying25 rfl rfl Try.sizeOf4 ((c.p e6).trans r4.ptr),
    Ob.storeBox (off := 6) (v := (.bool (tkF cs (i + 1) (⟨#[63]⟩ : ByteArray)))) rfl rfl rfl rfl Try.sizeOf4 (Nat.le_of_ble_eq_true rfl) (by simp [Value.cells, Value.oneCell', Sv.v]) rfl (fun _ _ _ _ c => ⟨c.bp 4 rfl e6, c.ad (c.n 2 rfl) e6 rfl, (c.dv 1 rfl)⟩), trivial⟩ ?_
   intro a13 w13 τ13 st13 f13
   obtain ⟨e0, e4, e5, e6, -⟩ := f13.ks [(0, _), (4, _), (5, _), (6, _)] ⟨e0, e4, e5, e6, trivial⟩
   replace r0 : boxR 58 [cv.v, (.int .i64 (((tkN cs (i + 1) (⟨#[63]⟩ : ByteArray) : Nat) : Int)))] (τ13 0) v w13 := f13.db 1 rfl
   replace r2 := f13.ib 2 rfl
   replace r3 := f13.iz 3 rfl
   replace r4 : boxR 25 [(.int .i64 (7)), (.string ((⟨#[]⟩ : ByteArray))), (.bool (false)), (.slice none 0 0), (.int .i64 (0)), (.int .i64 (1)), (.bool (tkF cs (i + 1) (⟨#[63]⟩ : ByteArray))), kv1_.v] (τ13 4) b3x6 w13 := f13.rb 3 e6 rfl
   replace r8 := f13.iz 8 rfl
   replace r9 := f13.iz 9 rfl
   clear f13
   show Code.wp _ _ _ a13 w13
   refine wp_seq ?_
   refine region_St (bf := [0, 1, 3]) (sp := [det _ 74 _, box _ _ 2 4 [(.int .i64 (7)), (.string ((⟨#[]⟩ : ByteArray))), (.bool (false)), (.slice none 0 0), (.int .i64 (0)), (.int .i64 (1)), (.bool (tkF cs (i + 1) (⟨#[63]⟩ : ByteArray))), kv1_.v], det _ 5 _]) [ib r0, Ini.any _, ib r2, iz r3, ib r4, Ini.any _, Ini.any _, Ini.any _, iz r8, iz r9] mixed st13 (by kernel_rfl) ⟨r0, trivial, r2, r3, r4, trivial, trivial, trivial, r8, r9, trivial⟩
    ⟨Ob.d fun c => r_loadN (vs := [(.int .i64 (7)), (.string ((⟨#[]⟩ : ByteArray))), (.bool (false)), (.slice none 0 0), (.int .i64 (0)), (.int .i64 (1)), (.bool (tkF cs (i + 1) (⟨#[63]⟩ : ByteArray))), kv1_.v]) rfl Try.isAgg25 Try.sizeOf25 ((c.p e6).trans r4.ptr) rfl (fun _ _ hj => (c.ib 4 rfl).cell hj),
    Ob.storeBox (off := 0) (v := (.agg #[(.int .i64 (7)), (.string ((⟨#[]⟩ : ByteArray))), (.bool (false)), (.slice none 0 0), (.int .i64 (0)), (.int .i64 (1)), (.bool (tkF cs (i + 1) (⟨#[63]⟩ : ByteArray))), kv1_.v])) rfl rfl rfl rfl Try.sizeOf25 (Nat.le_of_ble_eq_true rfl) (by simp [Value.cells, Value.oneCell', Sv.v]) rfl (fun _ _ _ _ c => ⟨c.bp 2 rfl e4, c.ad ((c.p e4).trans r2.ptr) e4 rfl, (c.n 0 rfl)⟩),
    Ob.d fun c => r_assign rfl rfl, trivial⟩ ?_
   intro a14 w14 τ14 st14 f14
   obtain ⟨e0, e4, -⟩ := f14.ks [(0, _), (4, _)] ⟨e0, e4, trivial⟩
   have e5 : get a14 5 = (.int .i64 (0)) := f14.v 2 rfl
   replace r0 := f14.ib 0 rfl
   replace r2 : boxR 25 [(.int .i64 (7)), (.string ((⟨#[]⟩ : ByteArray))), (.bool (false)), (.slice none 0 0), (.int .i64 (0)), (.int .i64 (1)), (.bool (tkF cs (i + 1) (⟨#[63]⟩ : ByteArray))), kv1_.v] (τ14 2) b1x4 w14 := f14.rb 1 e4 rfl
   replace r3 := f14.iz 3 rfl
   replace r8 := f14.iz 8 rfl
   replace r9 := f14.iz 9 rfl
   clear f14
   show Code.wp _ _ _ a14 w14
   refine wp_ret ?_
   repeat (first | with_reducible refine then_ret ?_ | with_reducible refine block_ret ?_)
   refine ret2c (fn := Try.f56) rfl st14.defers e4 e5 r2 Try.isAgg25 Try.sizeOf25 rfl ?_
   have he_ : timesF cs (er t) i = ((nodeT 7 (⟨#[]⟩ : ByteArray) false 0 1 (tkF cs (i + 1) (⟨#[63]⟩ : ByteArray)) Sv.nil [er t]), 0, tkN cs (i + 1) (⟨#[63]⟩ : ByteArray)) := by unfold timesF; (repeat (first | rw [if_neg (by first | assumption | (simp only [Bool.not_eq_true]; assumption) | (simp only [Bool.not_eq_false]; assumption) | (exact fun h_ => h_ (by assumption)) | omega)] | rw [if_pos (by first | assumption | omega)])); (try (first | first | exact fin_no | exact fin_bad (by assumption) | (rw [(fin_ok (by assumption)).1]; rfl) | rfl | (rw [(by assumption : numB (numF cs ((numF cs (i + 1)).2.2 + 1)) = true)]; first | exact fin_no | exact fin_bad (by assumption) | (rw [(fin_ok (by assumption)).1]; rfl) | rfl) | (rw [(by assumption : numB (numF cs ((numF cs (i + 1)).2.2 + 1)) = false)]; first | exact fin_no | exact fin_bad (by assumption) | (rw [(fin_ok (by assumption)).1]; rfl) | rfl)))
   rw [he_]
   exact ⟨(nodeT 7 (⟨#[]⟩ : ByteArray) false 0 1 (tkF cs (i + 1) (⟨#[63]⟩ : ByteArray)) kv1_ [t]), rfl, st14.extIn, r0.foot, (Fz.out (nodeZ r3 (zcons r8 znil))), er_node _ _ _ _ _ _ _ _⟩
 skip
 have htk3 : tkF cs i (⟨#[63]⟩ : ByteArray) = false := hc3
 rw [tkN_f htk3] at r0
 refine wp_seq ?_
 refine region_St (bf := [0, 1, 3]) (sp := [det _ 25 _, dbox 58 _ 0 26 v [cv.v, (.int .i64 (((tkN cs i (⟨#[123]⟩ : ByteArray) : Nat) : Int)))] (.bool (tkF cs i (⟨#[123]⟩ : ByteArray))), det _ 24 _]) [ib r0, ib r1, ib r2, iz r3, ib r4, Ini.any _, Ini.any _, Ini.any _, iz r8, iz r9] mixed st11 (by kernel_rfl) ⟨r0, r1, r2, r3, r4, trivial, trivial, trivial, r8, r9, trivial⟩
  ⟨Ob.d fun c => r_move rfl (c.p e0),
  Ob.db fun {_ a_ _ _} c => ⟨_, _, (e_call2 rfl rfl Try.call49 (c.n 0 rfl) rfl), db_of (c.ib 0 rfl) (take_c v cv cs i (⟨#[123]⟩ : ByteArray) _ (rdr (c.ib 0 rfl) (c.iz 9 rfl) (fun g_ h_ hz_ => hz_.2 _ h_)) hL (by omega))⟩,
  Ob.d fun c => r_assign rfl (c.dv 1 rfl), trivial⟩ ?_
 intro a15 w15 τ15 st15 f15
 obtain ⟨e0, e3, e4, e5, e6, -⟩ := f15.ks [(0, _), (3, _), (4, _), (5, _), (6, _)] ⟨e0, e3, e4, e5, e6, trivial⟩
 have e24 : get a15 24 = (.bool (tkF cs i (⟨#[123]⟩ : ByteArray))) := f15.v 2 rfl
 replace r0 : boxR 58 [cv.v, (.int .i64 (((tkN cs i (⟨#[123]⟩ : ByteArray) : Nat) : Int)))] (τ15 0) v w15 := f15.db 1 rfl
 replace r1 := f15.ib 1 rfl
 replace r2 := f15.ib 2 rfl
 replace r3 := f15.iz 3 rfl
 replace r4 := f15.ib 4 rfl
 replace r8 := f15.iz 8 rfl
 replace r9 := f15.iz 9 rfl
 clear f15
 show Code.wp _ _ _ a15 w15
 refine wp_cond_split (t := tkF cs i (⟨#[123]⟩ : ByteArray)) e24 (fun hc4 => ?_) (fun hc4 => ?_)
 · skip
   have htk4 : tkF cs i (⟨#[123]⟩ : ByteArray) = true := hc4
   have htl4 := tk_lt htk4
   rw [tkN_t htk4] at r0
   refine wp_seq ?_
   have hnr := numL_le cs 4 0 0 (i + 1)
   have hnr2 := numF_rg cs (i + 1)
   have hne_ : numF cs (i + 1) = numL cs 4 0 0 (i + 1) := rfl
   rw [← hne_] at hnr
   refine region_St (bf := [0, 1, 3, 7, 7, 15, 63]) (sp := [det _ 28 _, dbox 58 _ 0 29 v [cv.v, (.int .i64 ((((numF cs (i + 1)).2.2 : Nat) : Int)))] (.tuple #[(.int .i64 ((numF cs (i + 1)).1)), (.bool (numB (numF cs (i + 1))))]), det _ 27 _, det _ 30 _, det _ 31 _, det _ 7 _, det _ 8 _]) [ib r0, ib r1, ib r2, iz r3, ib r4, Ini.any _, Ini.any _, Ini.any _, iz r8, iz r9] mixed st15 (by kernel_rfl) ⟨r0, r1, r2, r3, r4, trivial, trivial, trivial, r8, r9, trivial⟩
    ⟨Ob.d fun c => r_move rfl (c.p e0),
    Ob.db fun {_ a_ _ _} c => ⟨_, _, (e_call1 rfl rfl Try.call65 (c.n 0 rfl)), db_of (c.ib 0 rfl) (num_c v cv cs (i + 1) _ (rdr (c.ib 0 rfl) (c.iz 9 rfl) (fun g_ h_ hz_ => hz_.2 _ h_)) hL (by omega))⟩,
    Ob.d fun c => r_move rfl (c.dv 1 rfl),
    Ob.d fun c => r_extract rfl (c.n 2 rfl) rfl,
    Ob.d fun c => r_extract rfl (c.n 2 rfl) rfl,
    Ob.d fun c => r_assign rfl (c.n 3 rfl),
    Ob.d fun c => r_assign rfl (c.n 4 rfl), trivial⟩ ?_
   intro a16 w16 τ16 st16 f16
   obtain ⟨e0, e3, e4, e5, e6, -⟩ := f16.ks [(0, _), (3, _), (4, _), (5, _), (6, _)] ⟨e0, e3, e4, e5, e6, trivial⟩
   have e7 : get a16 7 = (.int .i64 ((numF cs (i + 1)).1)) := f16.v 5 rfl
   have e8 : get a16 8 = (.bool (numB (numF cs (i + 1)))) := f16.v 6 rfl
   replace r0 : boxR 58 [cv.v, (.int .i64 ((((numF cs (i + 1)).2.2 : Nat) : Int)))] (τ16 0) v w16 := f16.db 1 rfl
   replace r1 := f16.ib 1 rfl
   replace r2 := f16.ib 2 rfl
   replace r3 := f16.iz 3 rfl
   replace r4 := f16.ib 4 rfl
   replace r8 := f16.iz 8 rfl
   replace r9 := f16.iz 9 rfl
   clear f16
   show Code.wp _ _ _ a16 w16
   refine wp_seq ?_
   refine wp_seq ?_
   refine region_St (bf := [0, 1]) (sp := [det _ 32 _, det _ 33 _]) [ib r0, ib r1, ib r2, iz r3, ib r4, Ini.any _, Ini.any _, Ini.any _, iz r8, iz r9] mixed st16 (by kernel_rfl) ⟨r0, r1, r2, r3, r4, trivial, trivial, trivial, r8, r9, trivial⟩
    ⟨Ob.d fun c => r_move rfl (c.p e8),
    Ob.d fun c => r_not rfl (c.n 0 rfl), trivial⟩ ?_
   intro a17 w17 τ17 st17 f17
   obtain ⟨e0, e3, e4, e5, e6, e7, e8, -⟩ := f17.ks [(0, _), (3, _), (4, _), (5, _), (6, _), (7, _), (8, _)] ⟨e0, e3, e4, e5, e6, e7, e8, trivial⟩
   have e33 : get a17 33 = (.bool (!(numB (numF cs (i + 1))))) := f17.v 1 rfl
   replace r0 := f17.ib 0 rfl
   replace r1 := f17.ib 1 rfl
   replace r2 := f17.ib 2 rfl
   replace r3 := f17.iz 3 rfl
   replace r4 := f17.ib 4 rfl
   replace r8 := f17.iz 8 rfl
   replace r9 := f17.iz 9 rfl
   clear f17
   show Code.wp _ _ _ a17 w17
   refine wp_cond_split (t := !(numB (numF cs (i + 1)))) e33 (fun hc5 => ?_) (fun hc5 => ?_)
   · try simp only [Bool.not_eq_true', Bool.not_eq_false'] at hc5
     refine wp_seq ?_
     refine region_St (bf := [0, 1, 3]) (sp := [det _ 34 _, box _ _ 2 4 [(.int .i64 (0)), (.string ((⟨#[]⟩ : ByteArray))), (.bool (false)), (.slice none 0 0), (.int .i64 (0)), (.int .i64 (0)), (.bool (false)), (.slice none 0 0)], det _ 5 _]) [ib r0, ib r1, ib r2, iz r3, ib r4, Ini.any _, Ini.any _, Ini.any _, iz r8, iz r9] mixed st17 (by kernel_rfl) ⟨r0, r1, r2, r3, r4, trivial, trivial, trivial, r8, r9, trivial⟩
      ⟨Ob.d fun c => r_build (cells := #[(.int .i64 (0)), (.string ((⟨#[]⟩ : ByteArray))), (.bool (false)), (.slice none 0 0), (.int .i64 (0)), (.int .i64 (0)), (.bool (false)), (.slice none 0 0)]) rfl Try.underlying25 Try.zeroValue25 (pl := #[(0, 1), (1, 1), (2, 1), (3, 1), (4, 1), (5, 1), (6, 1), (7, 1)]) (fun w_ => by simp [Try.sizeOf22, Try.sizeOf23, Try.sizeOf3, Try.sizeOf4, Try.sizeOf9]) (by simp only [List.map_toArray, List.map_nil]; rfl),
      Ob.storeBox (off := 0) (v := (.agg #[(.int .i64 (0)), (.string ((⟨#[]⟩ : ByteArray))), (.bool (false)), (.slice none 0 0), (.int .i64 (0)), (.int .i64 (0)), (.bool (false)), (.slice none 0 0)])) rfl rfl rfl rfl Try.sizeOf25 (Nat.le_of_ble_eq_true rfl) (by simp [Value.cells, Value.oneCell', Sv.v]) rfl (fun _ _ _ _ c => ⟨c.bp 2 rfl e4, c.ad ((c.p e4).trans r2.ptr) e4 rfl, (c.n 0 rfl)⟩),
      Ob.d fun c => r_assign rfl rfl, trivial⟩ ?_
     intro a18 w18 τ18 st18 f18
     obtain ⟨e0, e3, e4, e6, e7, e8, -⟩ := f18.ks [(0, _), (3, _), (4, _), (6, _), (7, _), (8, _)] ⟨e0, e3, e4, e6, e7, e8, trivial⟩
     have e5 : get a18 5 = (.int .i64 (10)) := f18.v 2 rfl
     replace r0 := f18.ib 0 rfl
     replace r1 := f18.ib 1 rfl
     replace r2 : boxR 25 [(.int .i64 (0)), (.string ((⟨#[]⟩ : ByteArray))), (.bool (false)), (.slice none 0 0), (.int .i64 (0)), (.int .i64 (0)), (.bool (false)), (.slice none 0 0)] (τ18 2) b1x4 w18 := f18.rb 1 e4 rfl
     replace r3 := f18.iz 3 rfl
     replace r4 := f18.ib 4 rfl
     replace r8 := f18.iz 8 rfl
     replace r9 := f18.iz 9 rfl
     clear f18
     show Code.wp _ _ _ a18 w18
     refine wp_ret ?_
     repeat (first | with_reducible refine then_ret ?_ | with_reducible refine block_ret ?_)
     refine ret2c (fn := Try.f56) rfl st18.defers e4 e5 r2 Try.isAgg25 Try.sizeOf25 rfl ?_
     have he_ : timesF cs (er t) i = ((leafT 0 (⟨#[]⟩ : ByteArray) false 0 0 false), 10, (numF cs (i + 1)).2.2) := by unfold timesF; (repeat (first | rw [if_neg (by first | assumption | (simp only [Bool.not_eq_true]; assumption) | (simp only [Bool.not_eq_false]; assumption) | (exact fun h_ => h_ (by assumption)) | omega)] | rw [if_pos (by first | assumption | omega)])); (try (first | first | exact fin_no | exact fin_bad (by assumption) | (rw [(fin_ok (by assumption)).1]; rfl) | rfl | (rw [(by assumption : numB (numF cs ((numF cs (i + 1)).2.2 + 1)) = true)]; first | exact fin_no | exact fin_bad (by assumption) | (rw [(fin_ok (by assumption)).1]; rfl) | rfl) | (rw [(by assumption : numB (numF cs ((numF cs (i + 1)).2.2 + 1)) = false)]; first | exact fin_no | exact fin_bad (by assumption) | (rw [(fin_ok (by assumption)).1]; rfl) | rfl)))
     rw [he_]
     exact ⟨(leafT 0 (⟨#[]⟩ : ByteArray) false 0 0 false), rfl, st18.extIn, r0.foot, (leafTr _ _ _ _ _ _ _ _), rfl⟩
   try simp only [Bool.not_eq_true', Bool.not_eq_false'] at hc5
   refine wp_skip ?_
   show Code.wp _ _ _ a17 w17
   refine wp_seq ?_
   refine region_St (bf := [0, 1, 3]) (sp := [det _ 35 _, det _ 36 _, box _ _ 4 6 [(.int .i64 (7)), (.string ((⟨#[]⟩ : ByteArray))), (.bool (false)), (.slice none 0 0), (.int .i64 ((numF cs (i + 1)).1)), (.int .i64 ((-1))), (.bool (false)), kv1_.v]]) [ib r0, ib r1, ib r2, iz r3, ib r4, Ini.any _, Ini.any _, Ini.any _, iz r8, iz r9] mixed st17 (by kernel_rfl) ⟨r0, r1, r2, r3, r4, trivial, trivial, trivial, r8, r9, trivial⟩
    ⟨Ob.d fun c => r_move rfl (c.p e7),
    Ob.d fun c => r_fieldAddr rfl Try.underlying25 rfl rfl Try.sizeOf3 ((c.p e6).trans r4.ptr),
    Ob.storeBox (off := 4) (v := (.int .i64 ((numF cs (i + 1)).1))) rfl rfl rfl rfl Try.sizeOf3 (Nat.le_of_ble_eq_true rfl) (by simp [Value.cells, Value.oneCell', Sv.v]) rfl (fun _ _ _ _ c => ⟨c.bp 4 rfl e6, c.ad (c.n 1 rfl) e6 rfl, (c.n 0 rfl)⟩), trivial⟩ ?_
   intro a19 w19 τ19 st19 f19
   obtain ⟨e0, e3, e4, e5, e6, e7, e8, -⟩ := f19.ks [(0, _), (3, _), (4, _), (5, _), (6, _), (7, _), (8, _)] ⟨e0, e3, e4, e5, e6, e7, e8, trivial⟩
   replace r0 := f19.ib 0 rfl
   replace r1 := f19.ib 1 rfl
   replace r2 := f19.ib 2 rfl
   replace r3 := f19.iz 3 rfl
   replace r4 : boxR 25 [(.int .i64 (7)), (.string ((⟨#[]⟩ : ByteArray))), (.bool (false)), (.slice none 0 0), (.int .i64 ((numF cs (i + 1)).1)), (.int .i64 ((-1))), (.bool (false)), kv1_.v] (τ19 4) b3x6 w19 := f19.rb 2 e6 rfl
   replace r8 := f19.iz 8 rfl
   replace r9 := f19.iz 9 rfl
   clear f19
   show Code.wp _ _ _ a19 w19
   refine wp_seq ?_
   refine region_St (bf := [0, 1, 3]) (sp := [det _ 37 _, det _ 38 _, box _ _ 4 6 [(.int .i64 (7)), (.string ((⟨#[]⟩ : ByteArray))), (.bool (false)), (.slice none 0 0), (.int .i64 ((numF cs (i + 1)).1)), (.int .i64 ((numF cs (i + 1)).1)), (.bool (false)), kv1_.v]]) [ib r0, ib r1, ib r2, iz r3, ib r4, Ini.any _, Ini.any _, Ini.any _, iz r8, iz r9] mixed st19 (by kernel_rfl) ⟨r0, r1, r2, r3, r4, trivial, trivial, trivial, r8, r9, trivial⟩
    ⟨Ob.d fun c => r_move rfl (c.p e7),
    Ob.d fun c => r_fieldAddr rfl Try.underlying25 rfl rfl Try.sizeOf3 ((c.p e6).trans r4.ptr),
    Ob.storeBox (off := 5) (v := (.int .i64 ((numF cs (i + 1)).1))) rfl rfl rfl rfl Try.sizeOf3 (Nat.le_of_ble_eq_true rfl) (by simp [Value.cells, Value.oneCell', Sv.v]) rfl (fun _ _ _ _ c => ⟨c.bp 4 rfl e6, c.ad (c.n 1 rfl) e6 rfl, (c.n 0 rfl)⟩), trivial⟩ ?_
   intro a20 w20 τ20 st20 f20
   obtain ⟨e0, e3, e4, e5, e6, e8, -⟩ := f20.ks [(0, _), (3, _), (4, _), (5, _), (6, _), (8, _)] ⟨e0, e3, e4, e5, e6, e8, trivial⟩
   replace r0 := f20.ib 0 rfl
   replace r1 := f20.ib 1 rfl
   replace r2 := f20.ib 2 rfl
   replace r3 := f20.iz 3 rfl
   replace r4 : boxR 25 [(.int .i64 (7)), (.string ((⟨#[]⟩ : ByteArray))), (.bool (false)), (.slice none 0 0), (.int .i64 ((numF cs (i + 1)).1)), (.int .i64 ((numF cs (i + 1)).1)), (.bool (false)), kv1_.v] (τ20 4) b3x6 w20 := f20.rb 2 e6 rfl
   replace r8 := f20.iz 8 rfl
   replace r9 := f20.iz 9 rfl
   clear f20
   show Code.wp _ _ _ a20 w20
   refine wp_seq ?_
   refine wp_seq ?_
   refine region_St (bf := [0, 1]) (sp := [det _ 39 _, dbox 58 _ 0 40 v [cv.v, (.int .i64 (((tkN cs ((numF cs (i + 1)).2.2) (⟨#[44]⟩ : ByteArray) : Nat) : Int)))] (.bool (tkF cs ((numF cs (i + 1)).2.2) (⟨#[44]⟩ : ByteArray)))]) [ib r0, ib r1, ib r2, iz r3, ib r4, Ini.any _, Ini.any _, Ini.any _, iz r8, iz r9] mixed st20 (by kernel_rfl) ⟨r0, r1, r2, r3, r4, trivial, trivial, trivial, r8, r9, trivial⟩
    ⟨Ob.d fun c => r_move rfl (c.p e0),
    Ob.db fun {_ a_ _ _} c => ⟨_, _, (e_call2 rfl rfl Try.call49 (c.n 0 rfl) rfl), db_of (c.ib 0 rfl) (take_c v cv cs ((numF cs (i + 1)).2.2) (⟨#[44]⟩ : ByteArray) _ (rdr (c.ib 0 rfl) (c.iz 9 rfl) (fun g_ h_ hz_ => hz_.2 _ h_)) hL (by omega))⟩, trivial⟩ ?_
   intro a21 w21 τ21 st21 f21
   obtain ⟨e0, e3, e4, e5, e6, e8, -⟩ := f21.ks [(0, _), (3, _), (4, _), (5, _), (6, _), (8, _)] ⟨e0, e3, e4, e5, e6, e8, trivial⟩
   have e40 : get a21 40 = (.bool (tkF cs ((numF cs (i + 1)).2.2) (⟨#[44]⟩ : ByteArray))) := f21.dv 1 rfl
   replace r0 : boxR 58 [cv.v, (.int .i64 (((tkN cs ((numF cs (i + 1)).2.2) (⟨#[44]⟩ : ByteArray) : Nat) : Int)))] (τ21 0) v w21 := f21.db 1 rfl
   replace r1 := f21.ib 1 rfl
   replace r2 := f21.ib 2 rfl
   replace r3 := f21.iz 3 rfl
   replace r4 := f21.ib 4 rfl
   replace r8 := f21.iz 8 rfl
   replace r9 := f21.iz 9 rfl
   clear f21
   show Code.wp _ _ _ a21 w21
   refine wp_cond_split (t := tkF cs ((numF cs (i + 1)).2.2) (⟨#[44]⟩ : ByteArray)) e40 (fun hc6 => ?_) (fun hc6 => ?_)
   · skip
     have htk6 : tkF cs ((numF cs (i + 1)).2.2) (⟨#[44]⟩ : ByteArray) = true := hc6
     have htl6 := tk_lt htk6
     rw [tkN_t htk6] at r0
     refine wp_seq ?_
     refine region_St (bf := [0, 1]) (sp := [det _ 41 _, box _ _ 4 6 [(.int .i64 (7)), (.string ((⟨#[]⟩ : ByteArray))), (.bool (false)), (.slice none 0 0), (.int .i64 ((numF cs (i + 1)).1)), (.int .i64 ((-1))), (.bool (false)), kv1_.v]]) [ib r0, ib r1, ib r2, iz r3, ib r4, Ini.any _, Ini.any _, Ini.any _, iz r8, iz r9] mixed st21 (by kernel_rfl) ⟨r0, r1, r2, r3, r4, trivial, trivial, trivial, r8, r9, trivial⟩
      ⟨Ob.d fun c => r_fieldAddr rfl Try.underlying25 rfl rfl Try.sizeOf3 ((c.p e6).trans r4.ptr),
      Ob.storeBox (off := 5) (v := (.int .i64 ((-1)))) rfl rfl rfl rfl Try.sizeOf3 (Nat.le_of_ble_eq_true rfl) (by simp [Value.cells, Value.oneCell', Sv.v]) rfl (fun _ _ _ _ c => ⟨c.bp 4 rfl e6, c.ad (c.n 0 rfl) e6 rfl, rfl⟩), trivial⟩ ?_
     intro a22 w22 τ22 st22 f22
     obtain ⟨e0, e3, e4, e5, e6, e8, -⟩ := f22.ks [(0, _), (3, _), (4, _), (5, _), (6, _), (8, _)] ⟨e0, e3, e4, e5, e6, e8, trivial⟩
     replace r0 := f22.ib 0 rfl
     replace r1 := f22.ib 1 rfl
     replace r2 := f22.ib 2 rfl
     replace r3 := f22.iz 3 rfl
     replace r4 : boxR 25 [(.int .i64 (7)), (.string ((⟨#[]⟩ : ByteArray))), (.bool (false)), (.slice none 0 0), (.int .i64 ((numF cs (i + 1)).1)), (.int .i64 ((-1))), (.bool (false)), kv1_.v] (τ22 4) b3x6 w22 := f22.rb 1 e6 rfl
     replace r8 := f22.iz 8 rfl
     replace r9 := f22.iz 9 rfl
     clear f22
     show Code.wp _ _ _ a22 w22
     refine wp_seq ?_
     refine region_St (bf := [0, 1, 3]) (sp := [det _ 42 _, det _ 43 _, det _ 44 _]) [ib r0, ib r1, ib r2, iz r3, ib r4, Ini.any _, Ini.any _, Ini.any _, iz r8, iz r9] mixed st22 (by kernel_rfl) ⟨r0, r1, r2, r3, r4, trivial, trivial, trivial, r8, r9, trivial⟩
      ⟨Ob.d fun c => r_move rfl (c.p e0),
      Ob.c fun c => ⟨_, _, (e_call1 rfl rfl Try.call47 (c.n 0 rfl)), see_c v cv cs (((numF cs (i + 1)).2.2) + 1) _ (rdr (c.ib 0 rfl) (c.iz 9 rfl) (fun g_ h_ hz_ => hz_.2 _ h_))⟩,
      Ob.d fun c => r_sneq rfl (c.n 1 rfl) rfl, trivial⟩ ?_
     intro a23 w23 τ23 st23 f23
     obtain ⟨e0, e3, e4, e5, e6, e8, -⟩ := f23.ks [(0, _), (3, _), (4, _), (5, _), (6, _), (8, _)] ⟨e0, e3, e4, e5, e6, e8, trivial⟩
     have e44 : get a23 44 = (.bool (!(eqT (seeF cs (((numF cs (i + 1)).2.2) + 1)) (⟨#[125]⟩ : ByteArray)))) := f23.v 2 rfl
     replace r0 := f23.ib 0 rfl
     replace r1 := f23.ib 1 rfl
     replace r2 := f23.ib 2 rfl
     replace r3 := f23.iz 3 rfl
     replace r4 := f23.ib 4 rfl
     replace r8 := f23.iz 8 rfl
     replace r9 := f23.iz 9 rfl
     clear f23
     show Code.wp _ _ _ a23 w23
     refine wp_cond_split (t := !(eqT (seeF cs (((numF cs (i + 1)).2.2) + 1)) (⟨#[125]⟩ : ByteArray))) e44 (fun hc7 => ?_) (fun hc7 => ?_)
     · try simp only [Bool.not_eq_true', Bool.not_eq_false'] at hc7
       have hnr3 := numL_le cs 4 0 0 ((numF cs (i + 1)).2.2 + 1)
       have hne3_ : numF cs ((numF cs (i + 1)).2.2 + 1) = numL cs 4 0 0 ((numF cs (i + 1)).2.2 + 1) := rfl
       rw [← hne3_] at hnr3
       refine region_St (bf := [0, 1, 3, 7, 7, 15, 47, 127]) (sp := [det _ 46 _, dbox 58 _ 0 47 v [cv.v, (.int .i64 ((((numF cs (((numF cs (i + 1)).2.2) + 1)).2.2 : Nat) : Int)))] (.tuple #[(.int .i64 ((numF cs (((numF cs (i + 1)).2.2) + 1)).1)), (.bool (numB (numF cs (((numF cs (i + 1)).2.2) + 1))))]), det _ 45 _, det _ 48 _, det _ 49 _, det _ 50 _, box _ _ 4 6 [(.int .i64 (7)), (.string ((⟨#[]⟩ : ByteArray))), (.bool (false)), (.slice none 0 0), (.int .i64 ((numF cs (i + 1)).1)), (.int .i64 ((numF cs (((numF cs (i + 1)).2.2) + 1)).1)), (.bool (false)), kv1_.v], det _ 8 _]) [ib r0, ib r1, ib r2, iz r3, ib r4, Ini.any _, Ini.any _, Ini.any _, iz r8, iz r9] mixed st23 (by kernel_rfl) ⟨r0, r1, r2, r3, r4, trivial, trivial, trivial, r8, r9, trivial⟩
        ⟨Ob.d fun c => r_move rfl (c.p e0),
        Ob.db fun {_ a_ _ _} c => ⟨_, _, (e_call1 rfl rfl Try.call65 (c.n 0 rfl)), db_of (c.ib 0 rfl) (num_c v cv cs (((numF cs (i + 1)).2.2) + 1) _ (rdr (c.ib 0 rfl) (c.iz 9 rfl) (fun g_ h_ hz_ => hz_.2 _ h_)) hL (by omega))⟩,
        Ob.d fun c => r_move rfl (c.dv 1 rfl),
        Ob.d fun c => r_extract rfl (c.n 2 rfl) rfl,
        Ob.d fun c => r_extract rfl (c.n 2 rfl) rfl,
        Ob.d fun c => r_fieldAddr rfl Try.underlying25 rfl rfl Try.sizeOf3 ((c.p e6).trans r4.ptr),
        Ob.storeBox (off := 5) (v := (.int .i64 ((numF cs (((numF cs (i + 1)).2.2) + 1)).1))) rfl rfl rfl rfl Try.sizeOf3 (Nat.le_of_ble_eq_true rfl) (by simp [Value.cells, Value.oneCell', Sv.v]) rfl (fun _ _ _ _ c => ⟨c.bp 4 rfl e6, c.ad (c.n 5 rfl) e6 rfl, (c.n 3 rfl)⟩),
        Ob.d fun c => r_assign rfl (c.n 4 rfl), trivial⟩ ?_
       intro a24 w24 τ24 st24 f24
       obtain ⟨e0, e3, e4, e5, e6, -⟩ := f24.ks [(0, _), (3, _), (4, _), (5, _), (6, _)] ⟨e0, e3, e4, e5, e6, trivial⟩
       have e8 : get a24 8 = (.bool (numB (numF cs (((numF cs (i + 1)).2.2) + 1)))) := f24.v 7 rfl
       replace r0 : boxR 58 [cv.v, (.int .i64 ((((numF cs (((numF cs (i + 1)).2.2) + 1)).2.2 : Nat) : Int)))] (τ24 0) v w24 := f24.db 1 rfl
       replace r1 := f24.ib 1 rfl
       replace r2 := f24.ib 2 rfl
       replace r3 := f24.iz 3 rfl
       replace r4 : boxR 25 [(.int .i64 (7)), (.string ((⟨#[]⟩ : ByteArray))), (.bool (false)), (.slice none 0 0), (.int .i64 ((numF cs (i + 1)).1)), (.int .i64 ((numF cs (((numF cs (i + 1)).2.2) + 1)).1)), (.bool (false)), kv1_.v] (τ24 4) b3x6 w24 := f24.rb 6 e6 rfl
       replace r8 := f24.iz 8 rfl
       replace r9 := f24.iz 9 rfl
       clear f24
       show Code.wp _ _ _ a24 w24
       refine wp_seq ?_
       rcases Bool.eq_false_or_eq_true (numB (numF cs (((numF cs (i + 1)).2.2) + 1))) with hs8 | hs8
       · replace e8 : get a24 8 = .bool true := e8.trans (congrArg Value.bool hs8)
         refine region_St (bf := [0, 1, 3, 7, 15, 31, 63, 127, 255, 511, 1023, 2047, 4095, 8191, 4095, 20479, 65535, 131071, 262143]) (sp := [det _ 51 _, det _ 52 _, det _ 53 _, det _ 54 _, dbox 58 _ 0 55 v [cv.v, (.int .i64 (((tkN cs ((numF cs (((numF cs (i + 1)).2.2) + 1)).2.2) (⟨#[125]⟩ : ByteArray) : Nat) : Int)))] (.bool (tkF cs ((numF cs (((numF cs (i + 1)).2.2) + 1)).2.2) (⟨#[125]⟩ : ByteArray))), det _ 56 _, det _ 57 _, det _ 58 _, gdet _ 59 _ _, gdet _ 60 _ _, gdet _ 61 _ _, gdet _ 62 _ _, gdet _ 63 _ _, gdet _ 64 _ _, gdet _ 65 _ _, gdet _ 66 _ _, gdet _ 67 _ _, gdet _ 68 _ _, det _ 69 _]) [ib r0, ib r1, ib r2, iz r3, ib r4, Ini.any _, Ini.any _, Ini.any _, iz r8, iz r9] mixed st24 (by kernel_rfl) ⟨r0, r1, r2, r3, r4, trivial, trivial, trivial, r8, r9, trivial⟩
          ⟨Ob.d fun c => r_move rfl (c.p e8),
          Ob.d fun c => r_not rfl (c.n 0 rfl),
          Ob.d fun c => r_move rfl (c.n 1 rfl),
          Ob.lv 2 (Ob.d fun c => r_move rfl (c.p e0)),
          Ob.lv 2 (Ob.db fun {_ a_ _ _} c => ⟨_, _, (e_call2 rfl rfl Try.call49 (c.n 3 rfl) rfl), db_of (c.ib 0 rfl) (take_c v cv cs ((numF cs (((numF cs (i + 1)).2.2) + 1)).2.2) (⟨#[125]⟩ : ByteArray) _ (rdr (c.ib 0 rfl) (c.iz 9 rfl) (fun g_ h_ hz_ => hz_.2 _ h_)) hL (by omega))⟩),
          Ob.lv 2 (Ob.d fun c => r_not rfl (c.dv 4 rfl)),
          Ob.d fun c => r_pick rfl (c.n 2 rfl) (fun h => by cases h) (fun _ => c.n 5 rfl),
          Ob.d fun c => r_move rfl (c.n 6 rfl),
          Ob.g 7 false rfl fun c hpc => r_fieldAddr rfl Try.underlying25 rfl rfl Try.sizeOf3 ((c.p e6).trans r4.ptr),
          Ob.g 7 false rfl fun c hpc => r_load1 rfl Try.isAgg3 (c.m 8 rfl hpc) ((c.ib 4 rfl).cell (j := 5) rfl),
          Ob.g 7 false rfl fun c hpc => r_neq rfl (c.m 9 rfl hpc) rfl,
          Ob.g 7 false rfl fun c hpc => r_move rfl (c.m 10 rfl hpc),
          Ob.gg 11 true rfl fun c hpc => r_fieldAddr rfl Try.underlying25 rfl rfl Try.sizeOf3 ((c.p e6).trans r4.ptr),
          Ob.gg 11 true rfl fun c hpc => r_load1 rfl Try.isAgg3 (c.m 12 rfl hpc) ((c.ib 4 rfl).cell (j := 5) rfl),
          Ob.gg 11 true rfl fun c hpc => r_fieldAddr rfl Try.underlying25 rfl rfl Try.sizeOf3 ((c.p e6).trans r4.ptr),
          Ob.gg 11 true rfl fun c hpc => r_load1 rfl Try.isAgg3 (c.m 14 rfl hpc) ((c.ib 4 rfl).cell (j := 4) rfl),
          Ob.gg 11 true rfl fun c hpc => r_lss rfl (c.m 13 rfl hpc) (c.m 15 rfl hpc),
          Ob.g 7 false rfl fun c hpc => r_and rfl (c.m 11 rfl hpc) (fun h => c.m 16 rfl (And.intro hpc h)),
          Ob.d fun c => r_or rfl (c.n 7 rfl) (fun h => c.m 17 rfl h), trivial⟩ ?_
         intro a25 w25 τ25 st25 f25
         obtain ⟨e0, e3, e4, e5, e6, -⟩ := f25.ks [(0, _), (3, _), (4, _), (5, _), (6, _)] ⟨e0, e3, e4, e5, e6, trivial⟩
         have e69 : get a25 69 = (.bool ((!(tkF cs ((numF cs (((numF cs (i + 1)).2.2) + 1)).2.2) (⟨#[125]⟩ : ByteArray))) || ((!decide ((numF cs (((numF cs (i + 1)).2.2) + 1)).1 = (-1))) && (decide ((numF cs (((numF cs (i + 1)).2.2) + 1)).1 < (numF cs (i + 1)).1))))) := f25.v 18 rfl
         replace r0 : boxR 58 [cv.v, (.int .i64 (((tkN cs ((numF cs (((numF cs (i + 1)).2.2) + 1)).2.2) (⟨#[125]⟩ : ByteArray) : Nat) : Int)))] (τ25 0) v w25 := f25.db 4 rfl
         replace r1 := f25.ib 1 rfl
         replace r2 := f25.ib 2 rfl
         replace r3 := f25.iz 3 rfl
         replace r4 := f25.ib 4 rfl
         replace r8 := f25.iz 8 rfl
         replace r9 := f25.iz 9 rfl
         clear f25
         show Code.wp _ _ _ a25 w25
         refine wp_cond_split (t := (!(tkF cs ((numF cs (((numF cs (i + 1)).2.2) + 1)).2.2) (⟨#[125]⟩ : ByteArray))) || ((!decide ((numF cs (((numF cs (i + 1)).2.2) + 1)).1 = (-1))) && (decide ((numF cs (((numF cs (i + 1)).2.2) + 1)).1 < (numF cs (i + 1)).1)))) e69 (fun hc9 => ?_) (fun hc9 => ?_)
         · have hd9 := hc9; try simp only [Bool.and_eq_true, Bool.and_eq_false_iff, Bool.or_eq_true, Bool.or_eq_false_iff, Bool.not_eq_true', Bool.not_eq_false', decide_eq_true_eq, decide_eq_false_iff_not, Int.not_lt] at hd9
           refine wp_seq ?_
           refine region_St (bf := [0, 1, 3]) (sp := [det _ 70 _, box _ _ 2 4 [(.int .i64 (0)), (.string ((⟨#[]⟩ : ByteArray))), (.bool (false)), (.slice none 0 0), (.int .i64 (0)), (.int .i64 (0)), (.bool (false)), (.slice none 0 0)], det _ 5 _]) [ib r0, ib r1, ib r2, iz r3, ib r4, Ini.any _, Ini.any _, Ini.any _, iz r8, iz r9] mixed st25 (by kernel_rfl) ⟨r0, r1, r2, r3, r4, trivial, trivial, trivial, r8, r9, trivial⟩
            ⟨Ob.d fun c => r_build (cells := #[(.int .i64 (0)), (.string ((⟨#[]⟩ : ByteArray))), (.bool (false)), (.slice none 0 0), (.int .i64 (0)), (.int .i64 (0)), (.bool (false)), (.slice none 0 0)]) rfl Try.underlying25 Try.zeroValue25 (pl := #[(0, 1), (1, 1), (2, 1), (3, 1), (4, 1), (5, 1), (6, 1), (7, 1)]) (fun w_ => by simp [Try.sizeOf22, Try.sizeOf23, Try.sizeOf3, Try.sizeOf4, Try.sizeOf9]) (by simp only [List.map_toArray, List.map_nil]; rfl),
            Ob.storeBox (off := 0) (v := (.agg #[(.int .i64 (0)), (.string ((⟨#[]⟩ : ByteArray))), (.bool (false)), (.slice none 0 0), (.int .i64 (0)), (.int .i64 (0)), (.bool (false)), (.slice none 0 0)])) rfl rfl rfl rfl Try.sizeOf25 (Nat.le_of_ble_eq_true rfl) (by simp [Value.cells, Value.oneCell', Sv.v]) rfl (fun _ _ _ _ c => ⟨c.bp 2 rfl e4, c.ad ((c.p e4).trans r2.ptr) e4 rfl, (c.n 0 rfl)⟩),
            Ob.d fun c => r_assign rfl rfl, trivial⟩ ?_
           intro a26 w26 τ26 st26 f26
           obtain ⟨e0, e3, e4, e6, -⟩ := f26.ks [(0, _), (3, _), (4, _), (6, _)] ⟨e0, e3, e4, e6, trivial⟩
           have e5 : get a26 5 = (.int .i64 (10)) := f26.v 2 rfl
           replace r0 := f26.ib 0 rfl
           replace r1 := f26.ib 1 rfl
           replace r2 : boxR 25 [(.int .i64 (0)), (.string ((⟨#[]⟩ : ByteArray))), (.bool (false)), (.slice none 0 0), (.int .i64 (0)), (.int .i64 (0)), (.bool (false)), (.slice none 0 0)] (τ26 2) b1x4 w26 := f26.rb 1 e4 rfl
           replace r3 := f26.iz 3 rfl
           replace r4 := f26.ib 4 rfl
           replace r8 := f26.iz 8 rfl
           replace r9 := f26.iz 9 rfl
           clear f26
           show Code.wp _ _ _ a26 w26
           refine wp_ret ?_
           repeat (first | with_reducible refine then_ret ?_ | with_reducible refine block_ret ?_)
           refine ret2c (fn := Try.f56) rfl st26.defers e4 e5 r2 Try.isAgg25 Try.sizeOf25 rfl ?_
           have he_ : timesF cs (er t) i = ((leafT 0 (⟨#[]⟩ : ByteArray) false 0 0 false), 10, tkN cs ((numF cs (((numF cs (i + 1)).2.2) + 1)).2.2) (⟨#[125]⟩ : ByteArray)) := by unfold timesF; (repeat (first | rw [if_neg (by first | assumption | (simp only [Bool.not_eq_true]; assumption) | (simp only [Bool.not_eq_false]; assumption) | (exact fun h_ => h_ (by assumption)) | omega)] | rw [if_pos (by first | assumption | omega)])); (try (first | first | exact fin_no | exact fin_bad (by assumption) | (rw [(fin_ok (by assumption)).1]; rfl) | rfl | (rw [(by assumption : numB (numF cs ((numF cs (i + 1)).2.2 + 1)) = true)]; first | exact fin_no | exact fin_bad (by assumption) | (rw [(fin_ok (by assumption)).1]; rfl) | rfl) | (rw [(by assumption : numB (numF cs ((numF cs (i + 1)).2.2 + 1)) = false)]; first | exact fin_no | exact fin_bad (by assumption) | (rw [(fin_ok (by assumption)).1]; rfl) | rfl)))
           rw [he_]
           exact ⟨(leafT 0 (⟨#[]⟩ : ByteArray) false 0 0 false), rfl, st26.extIn, r0.foot, (leafTr _ _ _ _ _ _ _ _), rfl⟩
         have hd9 := hc9; try simp only [Bool.and_eq_true, Bool.and_eq_false_iff, Bool.or_eq_true, Bool.or_eq_false_iff, Bool.not_eq_true', Bool.not_eq_false', decide_eq_true_eq, decide_eq_false_iff_not, Int.not_lt] at hd9
         refine wp_skip ?_
         show _
         show Code.wp _ _ _ a25 w25
         refine wp_seq ?_
         have hfo := fin_ok (x := er t) (by assumption)
         have htlf := tk_lt hfo.2
         rw [tkN_t hfo.2] at r0
         refine region_St (bf := [0, 1, 3, 7]) (sp := [det _ 71 _, dbox 58 _ 0 72 v [cv.v, (.int .i64 (((tkN cs (((numF cs (((numF cs (i + 1)).2.2) + 1)).2.2) + 1) (⟨#[63]⟩ : ByteArray) : Nat) : Int)))] (.bool (tkF cs (((numF cs (((numF cs (i + 1)).2.2) + 1)).2.2) + 1) (⟨#[63]⟩ : ByteArray))), det _ 73 _, box _ _ 4 6 [(.int .i64 (7)), (.string ((⟨#[]⟩ : ByteArray))), (.bool (false)), (.slice none 0 0), (.int .i64 ((numF cs (i + 1)).1)), (.int .i64 ((numF cs (((numF cs (i + 1)).2.2) + 1)).1)), (.bool (tkF cs (((numF cs (((numF cs (i + 1)).2.2) + 1)).2.2) + 1) (⟨#[63]⟩ : ByteArray))), kv1_.v]]) [ib r0, ib r1, ib r2, iz r3, ib r4, Ini.any _, Ini.any _, Ini.any _, iz r8, iz r9] mixed st25 (by kernel_rfl) ⟨r0, r1, r2, r3, r4, trivial, trivial, trivial, r8, r9, trivial⟩
          ⟨Ob.d fun c => r_move rfl (c.p e0),
          Ob.db fun {_ a_ _ _} c => ⟨_, _, (e_call2 rfl rfl Try.call49 (c.n 0 rfl) rfl), db_of (c.ib 0 rfl) (take_c v cv cs (((numF cs (((numF cs (i + 1)).2.2) + 1)).2.2) + 1) (⟨#[63]⟩ : ByteArray) _ (rdr (c.ib 0 rfl) (c.iz 9 rfl) (fun g_ h_ hz_ => hz_.2 _ h_)) hL (by omega))⟩,
          Ob.d fun c => r_fieldAddr rfl Try.underlying25 rfl rfl Try.sizeOf4 ((c.p e6).trans r4.ptr),
          Ob.storeBox (off := 6) (v := (.bool (tkF cs (((numF cs (((numF cs (i + 1)).2.2) + 1)).2.2) + 1) (⟨#[63]⟩ : ByteArray)))) rfl rfl rfl rfl Try.sizeOf4 (Nat.le_of_ble_eq_true rfl) (by simp [Value.cells, Value.oneCell', Sv.v]) rfl (fun _ _ _ _ c => ⟨c.bp 4 rfl e6, c.ad (c.n 2 rfl) e6 rfl, (c.dv 1 rfl)⟩), trivial⟩ ?_
         intro a27 w27 τ27 st27 f27
         obtain ⟨e0, e4, e5, e6, -⟩ := f27.ks [(0, _), (4, _), (5, _), (6, _)] ⟨e0, e4, e5, e6, trivial⟩
         replace r0 : boxR 58 [cv.v, (.int .i64 (((tkN cs (((numF cs (((numF cs (i + 1)).2.2) + 1)).2.2) + 1) (⟨#[63]⟩ : ByteArray) : Nat) : Int)))] (τ27 0) v w27 := f27.db 1 rfl
         replace r2 := f27.ib 2 rfl
         replace r3 := f27.iz 3 rfl
         replace r4 : boxR 25 [(.int .i64 (7)), (.string ((⟨#[]⟩ : ByteArray))), (.bool (false)), (.slice none 0 0), (.int .i64 ((numF cs (i + 1)).1)), (.int .i64 ((numF cs (((numF cs (i + 1)).2.2) + 1)).1)), (.bool (tkF cs (((numF cs (((numF cs (i + 1)).2.2) + 1)).2.2) + 1) (⟨#[63]⟩ : ByteArray))), kv1_.v] (τ27 4) b3x6 w27 := f27.rb 3 e6 rfl
         replace r8 := f27.iz 8 rfl
         replace r9 := f27.iz 9 rfl
         clear f27
         show Code.wp _ _ _ a27 w27
         refine wp_seq ?_
         refine region_St (bf := [0, 1, 3]) (sp := [det _ 74 _, box _ _ 2 4 [(.int .i64 (7)), (.string ((⟨#[]⟩ : ByteArray))), (.bool (false)), (.slice none 0 0), (.int .i64 ((numF cs (i + 1)).1)), (.int .i64 ((numF cs (((numF cs (i + 1)).2.2) + 1)).1)), (.bool (tkF cs (((numF cs (((numF cs (i + 1)).2.2) + 1)).2.2) + 1) (⟨#[63]⟩ : ByteArray))), kv1_.v], det _ 5 _]) [ib r0, Ini.any _, ib r2, iz r3, ib r4, Ini.any _, Ini.any _, Ini.any _, iz r8, iz r9] mixed st27 (by kernel_rfl) ⟨r0, trivial, r2, r3, r4, trivial, trivial, trivial, r8, r9, trivial⟩
          ⟨Ob.d fun c => r_loadN (vs := [(.int .i64 (7)), (.string ((⟨#[]⟩ : ByteArray))), (.bool (false)), (.slice none 0 0), (.int .i64 ((numF cs (i + 1)).1)), (.int .i64 ((numF cs (((numF cs (i + 1)).2.2) + 1)).1)), (.bool (tkF cs (((numF cs (((numF cs (i + 1)).2.2) + 1)).2.2) + 1) (⟨#[63]⟩ : ByteArray))), kv1_.v]) rfl Try.isAgg25 Try.sizeOf25 ((c.p e6).trans r4.ptr) rfl (fun _ _ hj => (c.ib 4 rfl).cell hj),
          Ob.storeBox (off := 0) (v := (.agg #[(.int .i64 (7)), (.string ((⟨#[]⟩ : ByteArray))), (.bool (false)), (.slice none 0 0), (.int .i64 ((numF cs (i + 1)).1)), (.int .i64 ((numF cs (((numF cs (i + 1)).2.2) + 1)).1)), (.bool (tkF cs (((numF cs (((numF cs (i + 1)).2.2) + 1)).2.2) + 1) (⟨#[63]⟩ : ByteArray))), kv1_.v])) rfl rfl rfl rfl Try.sizeOf25 (Nat.le_of_ble_eq_true rfl) (by simp [Value.cells, Value.oneCell', Sv.v]) rfl (fun _ _ _ _ c => ⟨c.bp 2 rfl e4, c.ad ((c.p e4).trans r2.ptr) e4 rfl, (c.n 0 rfl)⟩),
          Ob.d fun c => r_assign rfl rfl, trivial⟩ ?_
         intro a28 w28 τ28 st28 f28
         obtain ⟨e0, e4, -⟩ := f28.ks [(0, _), (4, _)] ⟨e0, e4, trivial⟩
         have e5 : get a28 5 = (.int .i64 (0)) := f28.v 2 rfl
         replace r0 := f28.ib 0 rfl
         replace r2 : boxR 25 [(.int .i64 (7)), (.string ((⟨#[]⟩ : ByteArray))), (.bool (false)), (.slice none 0 0), (.int .i64 ((numF cs (i + 1)).1)), (.int .i64 ((numF cs (((numF cs (i + 1)).2.2) + 1)).1)), (.bool (tkF cs (((numF cs (((numF cs (i + 1)).2.2) + 1)).2.2) + 1) (⟨#[63]⟩ : ByteArray))), kv1_.v] (τ28 2) b1x4 w28 := f28.rb 1 e4 rfl
         replace r3 := f28.iz 3 rfl
         replace r8 := f28.iz 8 rfl
         replace r9 := f28.iz 9 rfl
         clear f28
         show Code.wp _ _ _ a28 w28
         refine wp_ret ?_
         repeat (first | with_reducible refine then_ret ?_ | with_reducible refine block_ret ?_)
         refine ret2c (fn := Try.f56) rfl st28.defers e4 e5 r2 Try.isAgg25 Try.sizeOf25 rfl ?_
         have he_ : timesF cs (er t) i = ((nodeT 7 (⟨#[]⟩ : ByteArray) false ((numF cs (i + 1)).1) ((numF cs (((numF cs (i + 1)).2.2) + 1)).1) (tkF cs (((numF cs (((numF cs (i + 1)).2.2) + 1)).2.2) + 1) (⟨#[63]⟩ : ByteArray)) Sv.nil [er t]), 0, tkN cs (((numF cs (((numF cs (i + 1)).2.2) + 1)).2.2) + 1) (⟨#[63]⟩ : ByteArray)) := by unfold timesF; (repeat (first | rw [if_neg (by first | assumption | (simp only [Bool.not_eq_true]; assumption) | (simp only [Bool.not_eq_false]; assumption) | (exact fun h_ => h_ (by assumption)) | omega)] | rw [if_pos (by first | assumption | omega)])); (try (first | first | exact fin_no | exact fin_bad (by assumption) | (rw [(fin_ok (by assumption)).1]; rfl) | rfl | (rw [(by assumption : numB (numF cs ((numF cs (i + 1)).2.2 + 1)) = true)]; first | exact fin_no | exact fin_bad (by assumption) | (rw [(fin_ok (by assumption)).1]; rfl) | rfl) | (rw [(by assumption : numB (numF cs ((numF cs (i + 1)).2.2 + 1)) = false)]; first | exact fin_no | exact fin_bad (by assumption) | (rw [(fin_ok (by assumption)).1]; rfl) | rfl)))
         rw [he_]
         exact ⟨(nodeT 7 (⟨#[]⟩ : ByteArray) false ((numF cs (i + 1)).1) ((numF cs (((numF cs (i + 1)).2.2) + 1)).1) (tkF cs (((numF cs (((numF cs (i + 1)).2.2) + 1)).2.2) + 1) (⟨#[63]⟩ : ByteArray)) kv1_ [t]), rfl, st28.extIn, r0.foot, (Fz.out (nodeZ r3 (zcons r8 znil))), er_node _ _ _ _ _ _ _ _⟩
       · replace e8 : get a24 8 = .bool false := e8.trans (congrArg Value.bool hs8)
         refine region_St (bf := [0, 1, 3, 7, 15, 31, 63, 127, 255, 511, 1023, 2047, 4095, 8191, 4095, 20479, 65535, 131071, 262143]) (sp := [det _ 51 _, det _ 52 _, det _ 53 _, det _ 54 undef, det _ 55 undef, det _ 56 undef, det _ 57 _, det _ 58 _, det _ 59 undef, det _ 60 undef, det _ 61 undef, det _ 62 undef, det _ 63 undef, det _ 64 undef, det _ 65 undef, det _ 66 undef, det _ 67 undef, det _ 68 undef, det _ 69 _]) [ib r0, ib r1, ib r2, iz r3, ib r4, Ini.any _, Ini.any _, Ini.any _, iz r8, iz r9] mixed st24 (by kernel_rfl) ⟨r0, r1, r2, r3, r4, trivial, trivial, trivial, r8, r9, trivial⟩
          ⟨Ob.d fun c => r_move rfl (c.p e8),
          Ob.d fun c => r_not rfl (c.n 0 rfl),
          Ob.d fun c => r_move rfl (c.n 1 rfl),
          Ob.du 2,
          Ob.du 2,
          Ob.du 2,
          Ob.d fun c => r_pick rfl (c.n 2 rfl) (fun _ => rfl) (fun h => by cases h),
          Ob.d fun c => r_move rfl (c.n 6 rfl),
          Ob.du 7,
          Ob.du 7,
          Ob.du 7,
          Ob.du 7,
          Ob.du2 11,
          Ob.du2 11,
          Ob.du2 11,
          Ob.du2 11,
          Ob.du2 11,
          Ob.du 7,
          Ob.d fun c => r_pick rfl (c.n 7 rfl) (fun _ => rfl) (fun h => by cases h), trivial⟩ ?_
         intro a29 w29 τ29 st29 f29
         obtain ⟨e0, e3, e4, e5, e6, -⟩ := f29.ks [(0, _), (3, _), (4, _), (5, _), (6, _)] ⟨e0, e3, e4, e5, e6, trivial⟩
         have e69 : get a29 69 = (.bool (true)) := f29.v 18 rfl
         replace r0 := f29.ib 0 rfl
         replace r1 := f29.ib 1 rfl
         replace r2 := f29.ib 2 rfl
         replace r3 := f29.iz 3 rfl
         replace r4 := f29.ib 4 rfl
         replace r8 := f29.iz 8 rfl
         replace r9 := f29.iz 9 rfl
         clear f29
         show Code.wp _ _ _ a29 w29
         refine wp_cond_true e69 ?_
         refine wp_seq ?_
         refine region_St (bf := [0, 1, 3]) (sp := [det _ 70 _, box _ _ 2 4 [(.int .i64 (0)), (.string ((⟨#[]⟩ : ByteArray))), (.bool (false)), (.slice none 0 0), (.int .i64 (0)), (.int .i64 (0)), (.bool (false)), (.slice none 0 0)], det _ 5 _]) [ib r0, ib r1, ib r2, iz r3, ib r4, Ini.any _, Ini.any _, Ini.any _, iz r8, iz r9] mixed st29 (by kernel_rfl) ⟨r0, r1, r2, r3, r4, trivial, trivial, trivial, r8, r9, trivial⟩
          ⟨Ob.d fun c => r_build (cells := #[(.int .i64 (0)), (.string ((⟨#[]⟩ : ByteArray))), (.bool (false)), (.slice none 0 0), (.int .i64 (0)), (.int .i64 (0)), (.bool (false)), (.slice none 0 0)]) rfl Try.underlying25 Try.zeroValue25 (pl := #[(0, 1), (1, 1), (2, 1), (3, 1), (4, 1), (5, 1), (6, 1), (7, 1)]) (fun w_ => by simp [Try.sizeOf22, Try.sizeOf23, Try.sizeOf3, Try.sizeOf4, Try.sizeOf9]) (by simp only [List.map_toArray, List.map_nil]; rfl),
          Ob.storeBox (off := 0) (v := (.agg #[(.int .i64 (0)), (.string ((⟨#[]⟩ : ByteArray))), (.bool (false)), (.slice none 0 0), (.int .i64 (0)), (.int .i64 (0)), (.bool (false)), (.slice none 0 0)])) rfl rfl rfl rfl Try.sizeOf25 (Nat.le_of_ble_eq_true rfl) (by simp [Value.cells, Value.oneCell', Sv.v]) rfl (fun _ _ _ _ c => ⟨c.bp 2 rfl e4, c.ad ((c.p e4).trans r2.ptr) e4 rfl, (c.n 0 rfl)⟩),
          Ob.d fun c => r_assign rfl rfl, trivial⟩ ?_
         intro a30 w30 τ30 st30 f30
         obtain ⟨e0, e3, e4, e6, -⟩ := f30.ks [(0, _), (3, _), (4, _), (6, _)] ⟨e0, e3, e4, e6, trivial⟩
         have e5 : get a30 5 = (.int .i64 (10)) := f30.v 2 rfl
         replace r0 := f30.ib 0 rfl
         replace r1 := f30.ib 1 rfl
         replace r2 : boxR 25 [(.int .i64 (0)), (.string ((⟨#[]⟩ : ByteArray))), (.bool (false)), (.slice none 0 0), (.int .i64 (0)), (.int .i64 (0)), (.bool (false)), (.slice none 0 0)] (τ30 2) b1x4 w30 := f30.rb 1 e4 rfl
         replace r3 := f30.iz 3 rfl
         replace r4 := f30.ib 4 rfl
         replace r8 := f30.iz 8 rfl
         replace r9 := f30.iz 9 rfl
         clear f30
         show Code.wp _ _ _ a30 w30
         refine wp_ret ?_
         repeat (first | with_reducible refine then_ret ?_ | with_reducible refine block_ret ?_)
         refine ret2c (fn := Try.f56) rfl st30.defers e4 e5 r2 Try.isAgg25 Try.sizeOf25 rfl ?_
         have he_ : timesF cs (er t) i = ((leafT 0 (⟨#[]⟩ : ByteArray) false 0 0 false), 10, (numF cs (((numF cs (i + 1)).2.2) + 1)).2.2) := by unfold timesF; (repeat (first | rw [if_neg (by first | assumption | (simp only [Bool.not_eq_true]; assumption) | (simp only [Bool.not_eq_false]; assumption) | (exact fun h_ => h_ (by assumption)) | omega)] | rw [if_pos (by first | assumption | omega)])); (try (first | first | exact fin_no | exact fin_bad (by assumption) | (rw [(fin_ok (by assumption)).1]; rfl) | rfl | (rw [(by assumption : numB (numF cs ((numF cs (i + 1)).2.2 + 1)) = true)]; first | exact fin_no | exact fin_bad (by assumption) | (rw [(fin_ok (by assumption)).1]; rfl) | rfl) | (rw [(by assumption : numB (numF cs ((numF cs (i + 1)).2.2 + 1)) = false)]; first | exact fin_no | exact fin_bad (by assumption) | (rw [(fin_ok (by assumption)).1]; rfl) | rfl)))
         rw [he_]
         exact ⟨(leafT 0 (⟨#[]⟩ : ByteArray) false 0 0 false), rfl, st30.extIn, r0.foot, (leafTr _ _ _ _ _ _ _ _), rfl⟩
     try simp only [Bool.not_eq_true', Bool.not_eq_false'] at hc7
     refine wp_skip ?_
     show Code.wp _ _ _ a23 w23
     refine wp_seq ?_
     replace e8 : get a23 8 = .bool true := e8.trans (congrArg Value.bool hc5)
     refine region_St (bf := [0, 1, 3, 7, 15, 31, 63, 127, 255, 511, 1023, 2047, 4095, 8191, 4095, 20479, 65535, 131071, 262143]) (sp := [det _ 51 _, det _ 52 _, det _ 53 _, det _ 54 _, dbox 58 _ 0 55 v [cv.v, (.int .i64 (((tkN cs (((numF cs (i + 1)).2.2) + 1) (⟨#[125]⟩ : ByteArray) : Nat) : Int)))] (.bool (tkF cs (((numF cs (i + 1)).2.2) + 1) (⟨#[125]⟩ : ByteArray))), det _ 56 _, det _ 57 _, det _ 58 _, gdet _ 59 _ _, gdet _ 60 _ _, gdet _ 61 _ _, gdet _ 62 _ _, gdet _ 63 _ _, gdet _ 64 _ _, gdet _ 65 _ _, gdet _ 66 _ _, gdet _ 67 _ _, gdet _ 68 _ _, det _ 69 _]) [ib r0, ib r1, ib r2, iz r3, ib r4, Ini.any _, Ini.any _, Ini.any _, iz r8, iz r9] mixed st23 (by kernel_rfl) ⟨r0, r1, r2, r3, r4, trivial, trivial, trivial, r8, r9, trivial⟩
      ⟨Ob.d fun c => r_move rfl (c.p e8),
      Ob.d fun c => r_not rfl (c.n 0 rfl),
      Ob.d fun c => r_move rfl (c.n 1 rfl),
      Ob.lv 2 (Ob.d fun c => r_move rfl (c.p e0)),
      Ob.lv 2 (Ob.db fun {_ a_ _ _} c => ⟨_, _, (e_call2 rfl rfl Try.call49 (c.n 3 rfl) rfl), db_of (c.ib 0 rfl) (take_c v cv cs (((numF cs (i + 1)).2.2) + 1) (⟨#[125]⟩ : ByteArray) _ (rdr (c.ib 0 rfl) (c.iz 9 rfl) (fun g_ h_ hz_ => hz_.2 _ h_)) hL (by omega))⟩),
      Ob.lv 2 (Ob.d fun c => r_not rfl (c.dv 4 rfl)),
      Ob.d fun c => r_pick rfl (c.n 2 rfl) (fun h => by cases h) (fun _ => c.n 5 rfl),
      Ob.d fun c => r_move rfl (c.n 6 rfl),
      Ob.g 7 false rfl fun c hpc => r_fieldAddr rfl Try.underlying25 rfl rfl Try.sizeOf3 ((c.p e6).trans r4.ptr),
      Ob.g 7 false rfl fun c hpc => r_load1 rfl Try.isAgg3 (c.m 8 rfl hpc) ((c.ib 4 rfl).cell (j := 5) rfl),
      Ob.g 7 false rfl fun c hpc => r_neq rfl (c.m 9 rfl hpc) rfl,
      Ob.g 7 false rfl fun c hpc => r_move rfl (c.m 10 rfl hpc),
      Ob.gg 11 true rfl fun c hpc => r_fieldAddr rfl Try.underlying25 rfl rfl Try.sizeOf3 ((c.p e6).trans r4.ptr),
      Ob.gg 11 true rfl fun c hpc => r_load1 rfl Try.isAgg3 (c.m 12 rfl hpc) ((c.ib 4 rfl).cell (j := 5) rfl),
      Ob.gg 11 true rfl fun c hpc => r_fieldAddr rfl Try.underlying25 rfl rfl Try.sizeOf3 ((c.p e6).trans r4.ptr),
      Ob.gg 11 true rfl fun c hpc => r_load1 rfl Try.isAgg3 (c.m 14 rfl hpc) ((c.ib 4 rfl).cell (j := 4) rfl),
      Ob.gg 11 true rfl fun c hpc => r_lss rfl (c.m 13 rfl hpc) (c.m 15 rfl hpc),
      Ob.g 7 false rfl fun c hpc => r_and rfl (c.m 11 rfl hpc) (fun h => c.m 16 rfl (And.intro hpc h)),
      Ob.d fun c => r_or rfl (c.n 7 rfl) (fun h => c.m 17 rfl h), trivial⟩ ?_
     intro a31 w31 τ31 st31 f31
     obtain ⟨e0, e3, e4, e5, e6, -⟩ := f31.ks [(0, _), (3, _), (4, _), (5, _), (6, _)] ⟨e0, e3, e4, e5, e6, trivial⟩
     have e69 : get a31 69 = (.bool ((!(tkF cs (((numF cs (i + 1)).2.2) + 1) (⟨#[125]⟩ : ByteArray))) || ((!decide ((-1) = (-1))) && (decide ((-1) < (numF cs (i + 1)).1))))) := f31.v 18 rfl
     replace r0 : boxR 58 [cv.v, (.int .i64 (((tkN cs (((numF cs (i + 1)).2.2) + 1) (⟨#[125]⟩ : ByteArray) : Nat) : Int)))] (τ31 0) v w31 := f31.db 4 rfl
     replace r1 := f31.ib 1 rfl
     replace r2 := f31.ib 2 rfl
     replace r3 := f31.iz 3 rfl
     replace r4 := f31.ib 4 rfl
     replace r8 := f31.iz 8 rfl
     replace r9 := f31.iz 9 rfl
     clear f31
     show Code.wp _ _ _ a31 w31
     refine wp_cond_split (t := (!(tkF cs (((numF cs (i + 1)).2.2) + 1) (⟨#[125]⟩ : ByteArray))) || ((!decide ((-1) = (-1))) && (decide ((-1) < (numF cs (i + 1)).1)))) e69 (fun hc11 => ?_) (fun hc11 => ?_)
     · have hd11 := hc11; try simp only [Bool.and_eq_true, Bool.and_eq_false_iff, Bool.or_eq_true, Bool.or_eq_false_iff, Bool.not_eq_true', Bool.not_eq_false', decide_eq_true_eq, decide_eq_false_iff_not, Int.not_lt] at hd11
       refine wp_seq ?_
       refine region_St (bf := [0, 1, 3]) (sp := [det _ 70 _, box _ _ 2 4 [(.int .i64 (0)), (.string ((⟨#[]⟩ : ByteArray))), (.bool (false)), (.slice none 0 0), (.int .i64 (0)), (.int .i64 (0)), (.bool (false)), (.slice none 0 0)], det _ 5 _]) [ib r0, ib r1, ib r2, iz r3, ib r4, Ini.any _, Ini.any _, Ini.any _, iz r8, iz r9] mixed st31 (by kernel_rfl) ⟨r0, r1, r2, r3, r4, trivial, trivial, trivial, r8, r9, trivial⟩
        ⟨Ob.d fun c => r_build (cells := #[(.int .i64 (0)), (.string ((⟨#[]⟩ : ByteArray))), (.bool (false)), (.slice none 0 0), (.int .i64 (0)), (.int .i64 (0)), (.bool (false)), (.slice none 0 0)]) rfl Try.underlying25 Try.zeroValue25 (pl := #[(0, 1), (1, 1), (2, 1), (3, 1), (4, 1), (5, 1), (6, 1), (7, 1)]) (fun w_ => by simp [Try.sizeOf22, Try.sizeOf23, Try.sizeOf3, Try.sizeOf4, Try.sizeOf9]) (by simp only [List.map_toArray, List.map_nil]; rfl),
        Ob.storeBox (off := 0) (v := (.agg #[(.int .i64 (0)), (.string ((⟨#[]⟩ : ByteArray))), (.bool (false)), (.slice none 0 0), (.int .i64 (0)), (.int .i64 (0)), (.bool (false)), (.slice none 0 0)])) rfl rfl rfl rfl Try.sizeOf25 (Nat.le_of_ble_eq_true rfl) (by simp [Value.cells, Value.oneCell', Sv.v]) rfl (fun _ _ _ _ c => ⟨c.bp 2 rfl e4, c.ad ((c.p e4).trans r2.ptr) e4 rfl, (c.n 0 rfl)⟩),
        Ob.d fun c => r_assign rfl rfl, trivial⟩ ?_
       intro a32 w32 τ32 st32 f32
       obtain ⟨e0, e3, e4, e6, -⟩ := f32.ks [(0, _), (3, _), (4, _), (6, _)] ⟨e0, e3, e4, e6, trivial⟩
       have e5 : get a32 5 = (.int .i64 (10)) := f32.v 2 rfl
       replace r0 := f32.ib 0 rfl
       replace r1 := f32.ib 1 rfl
       replace r2 : boxR 25 [(.int .i64 (0)), (.string ((⟨#[]⟩ : ByteArray))), (.bool (false)), (.slice none 0 0), (.int .i64 (0)), (.int .i64 (0)), (.bool (false)), (.slice none 0 0)] (τ32 2) b1x4 w32 := f32.rb 1 e4 rfl
       replace r3 := f32.iz 3 rfl
       replace r4 := f32.ib 4 rfl
       replace r8 := f32.iz 8 rfl
       replace r9 := f32.iz 9 rfl
       clear f32
       show Code.wp _ _ _ a32 w32
       refine wp_ret ?_
       repeat (first | with_reducible refine then_ret ?_ | with_reducible refine block_ret ?_)
       refine ret2c (fn := Try.f56) rfl st32.defers e4 e5 r2 Try.isAgg25 Try.sizeOf25 rfl ?_
       have he_ : timesF cs (er t) i = ((leafT 0 (⟨#[]⟩ : ByteArray) false 0 0 false), 10, tkN cs (((numF cs (i + 1)).2.2) + 1) (⟨#[125]⟩ : ByteArray)) := by unfold timesF; (repeat (first | rw [if_neg (by first | assumption | (simp only [Bool.not_eq_true]; assumption) | (simp only [Bool.not_eq_false]; assumption) | (exact fun h_ => h_ (by assumption)) | omega)] | rw [if_pos (by first | assumption | omega)])); (try (first | first | exact fin_no | exact fin_bad (by assumption) | (rw [(fin_ok (by assumption)).1]; rfl) | rfl | (rw [(by assumption : numB (numF cs ((numF cs (i + 1)).2.2 + 1)) = true)]; first | exact fin_no | exact fin_bad (by assumption) | (rw [(fin_ok (by assumption)).1]; rfl) | rfl) | (rw [(by assumption : numB (numF cs ((numF cs (i + 1)).2.2 + 1)) = false)]; first | exact fin_no | exact fin_bad (by assumption) | (rw [(fin_ok (by assumption)).1]; rfl) | rfl)))
       rw [he_]
       exact ⟨(leafT 0 (⟨#[]⟩ : ByteArray) false 0 0 false), rfl, st32.extIn, r0.foot, (leafTr _ _ _ _ _ _ _ _), rfl⟩
     have hd11 := hc11; try simp only [Bool.and_eq_true, Bool.and_eq_false_iff, Bool.or_eq_true, Bool.or_eq_false_iff, Bool.not_eq_true', Bool.not_eq_false', decide_eq_true_eq, decide_eq_false_iff_not, Int.not_lt] at hd11
     refine wp_skip ?_
     show _
     show Code.wp _ _ _ a31 w31
     refine wp_seq ?_
     have hfo := fin_ok (x := er t) (by assumption)
     have htlf := tk_lt hfo.2
     rw [tkN_t hfo.2] at r0
     refine region_St (bf := [0, 1, 3, 7]) (sp := [det _ 71 _, dbox 58 _ 0 72 v [cv.v, (.int .i64 (((tkN cs ((((numF cs (i + 1)).2.2) + 1) + 1) (⟨#[63]⟩ : ByteArray) : Nat) : Int)))] (.bool (tkF cs ((((numF cs (i + 1)).2.2) + 1) + 1) (⟨#[63]⟩ : ByteArray))), det _ 73 _, box _ _ 4 6 [(.int .i64 (7)), (.string ((⟨#[]⟩ : ByteArray))), (.bool (false)), (.slice none 0 0), (.int .i64 ((numF cs (i + 1)).1)), (.int .i64 ((-1))), (.bool (tkF cs ((((numF cs (i + 1)).2.2) + 1) + 1) (⟨#[63]⟩ : ByteArray))), kv1_.v]]) [ib r0, ib r1, ib r2, iz r3, ib r4, Ini.any _, Ini.any _, Ini.any _, iz r8, iz r9] mixed st31 (by kernel_rfl) ⟨r0, r1, r2, r3, r4, trivial, trivial, trivial, r8, r9, trivial⟩
      ⟨Ob.d fun c => r_move rfl (c.p e0),
      Ob.db fun {_ a_ _ _} c => ⟨_, _, (e_call2 rfl rfl Try.call49 (c.n 0 rfl) rfl), db_of (c.ib 0 rfl) (take_c v cv cs ((((numF cs (i + 1)).2.2) + 1) + 1) (⟨#[63]⟩ : ByteArray) _ (rdr (c.ib 0 rfl) (c.iz 9 rfl) (fun g_ h_ hz_ => hz_.2 _ h_)) hL (by omega))⟩,
      Ob.d fun c => r_fieldAddr rfl Try.underlying25 rfl rfl Try.sizeOf4 ((c.p e6).trans r4.ptr),
      Ob.storeBox (off := 6) (v := (.bool (tkF cs ((((numF cs (i + 1)).2.2) + 1) + 1) (⟨#[63]⟩ : ByteArray)))) rfl rfl rfl rfl Try.sizeOf4 (Nat.le_of_ble_eq_true rfl) (by simp [Value.cells, Value.oneCell', Sv.v]) rfl (fun _ _ _ _ c => ⟨c.bp 4 rfl e6, c.ad (c.n 2 rfl) e6 rfl, (c.dv 1 rfl)⟩), trivial⟩ ?_
     intro a33 w33 τ33 st33 f33
     obtain ⟨e0, e4, e5, e6, -⟩ := f33.ks [(0, _), (4, _), (5, _), (6, _)] ⟨e0, e4, e5, e6, trivial⟩
     replace r0 : boxR 58 [cv.v, (.int .i64 (((tkN cs ((((numF cs (i + 1)).2.2) + 1) + 1) (⟨#[63]⟩ : ByteArray) : Nat) : Int)))] (τ33 0) v w33 := f33.db 1 rfl
     replace r2 := f33.ib 2 rfl
     replace r3 := f33.iz 3 rfl
     replace r4 : boxR 25 [(.int .i64 (7)), (.string ((⟨#[]⟩ : ByteArray))), (.bool (false)), (.slice none 0 0), (.int .i64 ((numF cs (i + 1)).1)), (.int .i64 ((-1))), (.bool (tkF cs ((((numF cs (i + 1)).2.2) + 1) + 1) (⟨#[63]⟩ : ByteArray))), kv1_.v] (τ33 4) b3x6 w33 := f33.rb 3 e6 rfl
     replace r8 := f33.iz 8 rfl
     replace r9 := f33.iz 9 rfl
     clear f33
     show Code.wp _ _ _ a33 w33
     refine wp_seq ?_
     refine region_St (bf := [0, 1, 3]) (sp := [det _ 74 _, box _ _ 2 4 [(.int .i64 (7)), (.string ((⟨#[]⟩ : ByteArray))), (.bool (false)), (.slice none 0 0), (.int .i64 ((numF cs (i + 1)).1)), (.int .i64 ((-1))), (.bool (tkF cs ((((numF cs (i + 1)).2.2) + 1) + 1) (⟨#[63]⟩ : ByteArray))), kv1_.v], det _ 5 _]) [ib r0, Ini.any _, ib r2, iz r3, ib r4, Ini.any _, Ini.any _, Ini.any _, iz r8, iz r9] mixed st33 (by kernel_rfl) ⟨r0, trivial, r2, r3, r4, trivial, trivial, trivial, r8, r9, trivial⟩
      ⟨Ob.d fun c => r_loadN (vs := [(.int .i64 (7)), (.string ((⟨#[]⟩ : ByteArray))), (.bool (false)), (.slice none 0 0), (.int .i64 ((numF cs (i + 1)).1)), (.int .i64 ((-1))), (.bool (tkF cs ((((numF cs (i + 1)).2.2) + 1) + 1) (⟨#[63]⟩ : ByteArray))), kv1_.v]) rfl Try.isAgg25 Try.sizeOf25 ((c.p e6).trans r4.ptr) rfl (fun _ _ hj => (c.ib 4 rfl).cell hj),
      Ob.storeBox (off := 0) (v := (.agg #[(.int .i64 (7)), (.string ((⟨#[]⟩ : ByteArray))), (.bool (false)), (.slice none 0 0), (.int .i64 ((numF cs (i + 1)).1)), (.int .i64 ((-1))), (.bool (tkF cs ((((numF cs (i + 1)).2.2) + 1) + 1) (⟨#[63]⟩ : ByteArray))), kv1_.v])) rfl rfl rfl rfl Try.sizeOf25 (Nat.le_of_ble_eq_true rfl) (by simp [Value.cells, Value.oneCell', Sv.v]) rfl (fun _ _ _ _ c => ⟨c.bp 2 rfl e4, c.ad ((c.p e4).trans r2.ptr) e4 rfl, (c.n 0 rfl)⟩),
      Ob.d fun c => r_assign rfl rfl, trivial⟩ ?_
     intro a34 w34 τ34 st34 f34
     obtain ⟨e0, e4, -⟩ := f34.ks [(0, _), (4, _)] ⟨e0, e4, trivial⟩
     have e5 : get a34 5 = (.int .i64 (0)) := f34.v 2 rfl
     replace r0 := f34.ib 0 rfl
     replace r2 : boxR 25 [(.int .i64 (7)), (.string ((⟨#[]⟩ : ByteArray))), (.bool (false)), (.slice none 0 0), (.int .i64 ((numF cs (i + 1)).1)), (.int .i64 ((-1))), (.bool (tkF cs ((((numF cs (i + 1)).2.2) + 1) + 1) (⟨#[63]⟩ : ByteArray))), kv1_.v] (τ34 2) b1x4 w34 := f34.rb 1 e4 rfl
     replace r3 := f34.iz 3 rfl
     replace r8 := f34.iz 8 rfl
     replace r9 := f34.iz 9 rfl
     clear f34
     show Code.wp _ _ _ a34 w34
     refine wp_ret ?_
     repeat (first | with_reducible refine then_ret ?_ | with_reducible refine block_ret ?_)
     refine ret2c (fn := Try.f56) rfl st34.defers e4 e5 r2 Try.isAgg25 Try.sizeOf25 rfl ?_
     have he_ : timesF cs (er t) i = ((nodeT 7 (⟨#[]⟩ : ByteArray) false ((numF cs (i + 1)).1) (-1) (tkF cs ((((numF cs (i + 1)).2.2) + 1) + 1) (⟨#[63]⟩ : ByteArray)) Sv.nil [er t]), 0, tkN cs ((((numF cs (i + 1)).2.2) + 1) + 1) (⟨#[63]⟩ : ByteArray)) := by unfold timesF; (repeat (first | rw [if_neg (by first | assumption | (simp only [Bool.not_eq_true]; assumption) | (simp only [Bool.not_eq_false]; assumption) | (exact fun h_ => h_ (by assumption)) | omega)] | rw [if_pos (by first | assumption | omega)])); (try (first | first | exact fin_no | exact fin_bad (by assumption) | (rw [(fin_ok (by assumption)).1]; rfl) | rfl | (rw [(by assumption : numB (numF cs ((numF cs (i + 1)).2.2 + 1)) = true)]; first | exact fin_no | exact fin_bad (by assumption) | (rw [(fin_ok (by assumption)).1]; rfl) | rfl) | (rw [(by assumption : numB (numF cs ((numF cs (i + 1)).2.2 + 1)) = false)]; first | exact fin_no | exact fin_bad (by assumption) | (rw [(fin_ok (by assumption)).1]; rfl) | rfl)))
     rw [he_]
     exact ⟨(nodeT 7 (⟨#[]⟩ : ByteArray) false ((numF cs (i + 1)).1) (-1) (tkF cs ((((numF cs (i + 1)).2.2) + 1) + 1) (⟨#[63]⟩ : ByteArray)) kv1_ [t]), rfl, st34.extIn, r0.foot, (Fz.out (nodeZ r3 (zcons r8 znil))), er_node _ _ _ _ _ _ _ _⟩
   skip
   have htk11 : tkF cs ((numF cs (i + 1)).2.2) (⟨#[44]⟩ : ByteArray) = false := hc6
   rw [tkN_f htk11] at r0
   refine wp_skip ?_
   show Code.wp _ _ _ a21 w21
   refine wp_seq ?_
   replace e8 : get a21 8 = .bool true := e8.trans (congrArg Value.bool hc5)
   refine region_St (bf := [0, 1, 3, 7, 15, 31, 63, 127, 255, 511, 1023, 2047, 4095, 8191, 4095, 20479, 65535, 131071, 262143]) (sp := [det _ 51 _, det _ 52 _, det _ 53 _, det _ 54 _, dbox 58 _ 0 55 v [cv.v, (.int .i64 (((tkN cs ((numF cs (i + 1)).2.2) (⟨#[125]⟩ : ByteArray) : Nat) : Int)))] (.bool (tkF cs ((numF cs (i + 1)).2.2) (⟨#[125]⟩ : ByteArray))), det _ 56 _, det _ 57 _, det _ 58 _, gdet _ 59 _ _, gdet _ 60 _ _, gdet _ 61 _ _, gdet _ 62 _ _, gdet _ 63 _ _, gdet _ 64 _ _, gdet _ 65 _ _, gdet _ 66 _ _, gdet _ 67 _ _, gdet _ 68 _ _, det _ 69 _]) [ib r0, ib r1, ib r2, iz r3, ib r4, Ini.any _, Ini.any _, Ini.any _, iz r8, iz r9] mixed st21 (by kernel_rfl) ⟨r0, r1, r2, r3, r4, trivial, trivial, trivial, r8, r9, trivial⟩
    ⟨Ob.d fun c => r_move rfl (c.p e8),
    Ob.d fun c => r_not rfl (c.n 0 rfl),
    Ob.d fun c => r_move rfl (c.n 1 rfl),
    Ob.lv 2 (Ob.d fun c => r_move rfl (c.p e0)),
    Ob.lv 2 (Ob.db fun {_ a_ _ _} c => ⟨_, _, (e_call2 rfl rfl Try.call49 (c.n 3 rfl) rfl), db_of (c.ib 0 rfl) (take_c v cv cs ((numF cs (i + 1)).2.2) (⟨#[125]⟩ : ByteArray) _ (rdr (c.ib 0 rfl) (c.iz 9 rfl) (fun g_ h_ hz_ => hz_.2 _ h_)) hL (by omega))⟩),
    Ob.lv 2 (Ob.d fun c => r_not rfl (c.dv 4 rfl)),
    Ob.d fun c => r_pick rfl (c.n 2 rfl) (fun h => by cases h) (fun _ => c.n 5 rfl),
    Ob.d fun c => r_move rfl (c.n 6 rfl),
    Ob.g 7 false rfl fun c hpc => r_fieldAddr rfl Try.underlying25 rfl rfl Try.sizeOf3 ((c.p e6).trans r4.ptr),
    Ob.g 7 false rfl fun c hpc => r_load1 rfl Try.isAgg3 (c.m 8 rfl hpc) ((c.ib 4 rfl).cell (j := 5) rfl),
    Ob.g 7 false rfl fun c hpc => r_neq rfl (c.m 9 rfl hpc) rfl,
    Ob.g 7 false rfl fun c hpc => r_move rfl (c.m 10 rfl hpc),
    Ob.gg 11 true rfl fun c hpc => r_fieldAddr rfl Try.underlying25 rfl rfl Try.sizeOf3 ((c.p e6).trans r4.ptr),
    Ob.gg 11 true rfl fun c hpc => r_load1 rfl Try.isAgg3 (c.m 12 rfl hpc) ((c.ib 4 rfl).cell (j := 5) rfl),
    Ob.gg 11 true rfl fun c hpc => r_fieldAddr rfl Try.underlying25 rfl rfl Try.sizeOf3 ((c.p e6).trans r4.ptr),
    Ob.gg 11 true rfl fun c hpc => r_load1 rfl Try.isAgg3 (c.m 14 rfl hpc) ((c.ib 4 rfl).cell (j := 4) rfl),
    Ob.gg 11 true rfl fun c hpc => r_lss rfl (c.m 13 rfl hpc) (c.m 15 rfl hpc),
    Ob.g 7 false rfl fun c hpc => r_and rfl (c.m 11 rfl hpc) (fun h => c.m 16 rfl (And.intro hpc h)),
    Ob.d fun c => r_or rfl (c.n 7 rfl) (fun h => c.m 17 rfl h), trivial⟩ ?_
   intro a35 w35 τ35 st35 f35
   obtain ⟨e0, e3, e4, e5, e6, -⟩ := f35.ks [(0, _), (3, _), (4, _), (5, _), (6, _)] ⟨e0, e3, e4, e5, e6, trivial⟩
   have e69 : get a35 69 = (.bool ((!(tkF cs ((numF cs (i + 1)).2.2) (⟨#[125]⟩ : ByteArray))) || ((!decide ((numF cs (i + 1)).1 = (-1))) && (decide ((numF cs (i + 1)).1 < (numF cs (i + 1)).1))))) := f35.v 18 rfl
   replace r0 : boxR 58 [cv.v, (.int .i64 (((tkN cs ((numF cs (i + 1)).2.2) (⟨#[125]⟩ : ByteArray) : Nat) : Int)))] (τ35 0) v w35 := f35.db 4 rfl
   replace r1 := f35.ib 1 rfl
   replace r2 := f35.ib 2 rfl
   replace r3 := f35.iz 3 rfl
   replace r4 := f35.ib 4 rfl
   replace r8 := f35.iz 8 rfl
   replace r9 := f35.iz 9 rfl
   clear f35
   show Code.wp _ _ _ a35 w35
   refine wp_cond_split (t := (!(tkF cs ((numF cs (i + 1)).2.2) (⟨#[125]⟩ : ByteArray))) || ((!decide ((numF cs (i + 1)).1 = (-1))) && (decide ((numF cs (i + 1)).1 < (numF cs (i + 1)).1)))) e69 (fun hc12 => ?_) (fun hc12 => ?_)
   · have hd12 := hc12; try simp only [Bool.and_eq_true, Bool.and_eq_false_iff, Bool.or_eq_true, Bool.or_eq_false_iff, Bool.not_eq_true', Bool.not_eq_false', decide_eq_true_eq, decide_eq_false_iff_not, Int.not_lt] at hd12
     refine wp_seq ?_
     refine region_St (bf := [0, 1, 3]) (sp := [det _ 70 _, box _ _ 2 4 [(.int .i64 (0)), (.string ((⟨#[]⟩ : ByteArray))), (.bool (false)), (.slice none 0 0), (.int .i64 (0)), (.int .i64 (0)), (.bool (false)), (.slice none 0 0)], det _ 5 _]) [ib r0, ib r1, ib r2, iz r3, ib r4, Ini.any _, Ini.any _, Ini.any _, iz r8, iz r9] mixed st35 (by kernel_rfl) ⟨r0, r1, r2, r3, r4, trivial, trivial, trivial, r8, r9, trivial⟩
      ⟨Ob.d fun c => r_build (cells := #[(.int .i64 (0)), (.string ((⟨#[]⟩ : ByteArray))), (.bool (false)), (.slice none 0 0), (.int .i64 (0)), (.int .i64 (0)), (.bool (false)), (.slice none 0 0)]) rfl Try.underlying25 Try.zeroValue25 (pl := #[(0, 1), (1, 1), (2, 1), (3, 1), (4, 1), (5, 1), (6, 1), (7, 1)]) (fun w_ => by simp [Try.sizeOf22, Try.sizeOf23, Try.sizeOf3, Try.sizeOf4, Try.sizeOf9]) (by simp only [List.map_toArray, List.map_nil]; rfl),
      Ob.storeBox (off := 0) (v := (.agg #[(.int .i64 (0)), (.string ((⟨#[]⟩ : ByteArray))), (.bool (false)), (.slice none 0 0), (.int .i64 (0)), (.int .i64 (0)), (.bool (false)), (.slice none 0 0)])) rfl rfl rfl rfl Try.sizeOf25 (Nat.le_of_ble_eq_true rfl) (by simp [Value.cells, Value.oneCell', Sv.v]) rfl (fun _ _ _ _ c => ⟨c.bp 2 rfl e4, c.ad ((c.p e4).trans r2.ptr) e4 rfl, (c.n 0 rfl)⟩),
      Ob.d fun c => r_assign rfl rfl, trivial⟩ ?_
     intro a36 w36 τ36 st36 f36
     obtain ⟨e0, e3, e4, e6, -⟩ := f36.ks [(0, _), (3, _), (4, _), (6, _)] ⟨e0, e3, e4, e6, trivial⟩
     have e5 : get a36 5 = (.int .i64 (10)) := f36.v 2 rfl
     replace r0 := f36.ib 0 rfl
     replace r1 := f36.ib 1 rfl
     replace r2 : boxR 25 [(.int .i64 (0)), (.string ((⟨#[]⟩ : ByteArray))), (.bool (false)), (.slice none 0 0), (.int .i64 (0)), (.int .i64 (0)), (.bool (false)), (.slice none 0 0)] (τ36 2) b1x4 w36 := f36.rb 1 e4 rfl
     replace r3 := f36.iz 3 rfl
     replace r4 := f36.ib 4 rfl
     replace r8 := f36.iz 8 rfl
     replace r9 := f36.iz 9 rfl
     clear f36
     show Code.wp _ _ _ a36 w36
     refine wp_ret ?_
     repeat (first | with_reducible refine then_ret ?_ | with_reducible refine block_ret ?_)
     refine ret2c (fn := Try.f56) rfl st36.defers e4 e5 r2 Try.isAgg25 Try.sizeOf25 rfl ?_
     have he_ : timesF cs (er t) i = ((leafT 0 (⟨#[]⟩ : ByteArray) false 0 0 false), 10, tkN cs ((numF cs (i + 1)).2.2) (⟨#[125]⟩ : ByteArray)) := by unfold timesF; (repeat (first | rw [if_neg (by first | assumption | (simp only [Bool.not_eq_true]; assumption) | (simp only [Bool.not_eq_false]; assumption) | (exact fun h_ => h_ (by assumption)) | omega)] | rw [if_pos (by first | assumption | omega)])); (try (first | first | exact fin_no | exact fin_bad (by assumption) | (rw [(fin_ok (by assumption)).1]; rfl) | rfl | (rw [(by assumption : numB (numF cs ((numF cs (i + 1)).2.2 + 1)) = true)]; first | exact fin_no | exact fin_bad (by assumption) | (rw [(fin_ok (by assumption)).1]; rfl) | rfl) | (rw [(by assumption : numB (numF cs ((numF cs (i + 1)).2.2 + 1)) = false)]; first | exact fin_no | exact fin_bad (by assumption) | (rw [(fin_ok (by assumption)).1]; rfl) | rfl)))
     rw [he_]
     exact ⟨(leafT 0 (⟨#[]⟩ : ByteArray) false 0 0 false), rfl, st36.extIn, r0.foot, (leafTr _ _ _ _ _ _ _ _), rfl⟩
   have hd12 := hc12; try simp only [Bool.and_eq_true, Bool.and_eq_false_iff, Bool.or_eq_true, Bool.or_eq_false_iff, Bool.not_eq_true', Bool.not_eq_false', decide_eq_true_eq, decide_eq_false_iff_not, Int.not_lt] at hd12
   refine wp_skip ?_
   show _
   show Code.wp _ _ _ a35 w35
   refine wp_seq ?_
   have hfo := fin_ok (x := er t) (by assumption)
   have htlf := tk_lt hfo.2
   rw [tkN_t hfo.2] at r0
   refine region_St (bf := [0, 1, 3, 7]) (sp := [det _ 71 _, dbox 58 _ 0 72 v [cv.v, (.int .i64 (((tkN cs (((numF cs (i + 1)).2.2) + 1) (⟨#[63]⟩ : ByteArray) : Nat) : Int)))] (.bool (tkF cs (((numF cs (i + 1)).2.2) + 1) (⟨#[63]⟩ : ByteArray))), det _ 73 _, box _ _ 4 6 [(.int .i64 (7)), (.string ((⟨#[]⟩ : ByteArray))), (.bool (false)), (.slice none 0 0), (.int .i64 ((numF cs (i + 1)).1)), (.int .i64 ((numF cs (i + 1)).1)), (.bool (tkF cs (((numF cs (i + 1)).2.2) + 1) (⟨#[63]⟩ : ByteArray))), kv1_.v]]) [ib r0, ib r1, ib r2, iz r3, ib r4, Ini.any _, Ini.any _, Ini.any _, iz r8, iz r9] mixed st35 (by kernel_rfl) ⟨r0, r1, r2, r3, r4, trivial, trivial, trivial, r8, r9, trivial⟩
    ⟨Ob.d fun c => r_move rfl (c.p e0),
    Ob.db fun {_ a_ _ _} c => ⟨_, _, (e_call2 rfl rfl Try.call49 (c.n 0 rfl) rfl), db_of (c.ib 0 rfl) (take_c v cv cs (((numF cs (i + 1)).2.2) + 1) (⟨#[63]⟩ : ByteArray) _ (rdr (c.ib 0 rfl) (c.iz 9 rfl) (fun g_ h_ hz_ => hz_.2 _ h_)) hL (by omega))⟩,
    Ob.d fun c => r_fieldAddr rfl Try.underlying25 rfl rfl Try.sizeOf4 ((c.p e6).trans r4.ptr),
    Ob.storeBox (off := 6) (v := (.bool (tkF cs (((numF cs (i + 1)).2.2) + 1) (⟨#[63]⟩ : ByteArray)))) rfl rfl rfl rfl Try.sizeOf4 (Nat.le_of_ble_eq_true rfl) (by simp [Value.cells, Value.oneCell', Sv.v]) rfl (fun _ _ _ _ c => ⟨c.bp 4 rfl e6, c.ad (c.n 2 rfl) e6 rfl, (c.dv 1 rfl)⟩), trivial⟩ ?_
   intro a37 w37 τ37 st37 f37
   obtain ⟨e0, e4, e5, e6, -⟩ := f37.ks [(0, _), (4, _), (5, _), (6, _)] ⟨e0, e4, e5, e6, trivial⟩
   replace r0 : boxR 58 [cv.v, (.int .i64 (((tkN cs (((numF cs (i + 1)).2.2) + 1) (⟨#[63]⟩ : ByteArray) : Nat) : Int)))] (τ37 0) v w37 := f37.db 1 rfl
   replace r2 := f37.ib 2 rfl
   replace r3 := f37.iz 3 rfl
   replace r4 : boxR 25 [(.int .i64 (7)), (.string ((⟨#[]⟩ : ByteArray))), (.bool (false)), (.slice none 0 0), (.int .i64 ((numF cs (i + 1)).1)), (.int .i64 ((numF cs (i + 1)).1)), (.bool (tkF cs (((numF cs (i + 1)).2.2) + 1) (⟨#[63]⟩ : ByteArray))), kv1_.v] (τ37 4) b3x6 w37 := f37.rb 3 e6 rfl
   replace r8 := f37.iz 8 rfl
   replace r9 := f37.iz 9 rfl
   clear f37
   show Code.wp _ _ _ a37 w37
   refine wp_seq ?_
   refine region_St (bf := [0, 1, 3]) (sp := [det _ 74 _, box _ _ 2 4 [(.int .i64 (7)), (.string ((⟨#[]⟩ : ByteArray))), (.bool (false)), (.slice none 0 0), (.int .i64 ((numF cs (i + 1)).1)), (.int .i64 ((numF cs (i + 1)).1)), (.bool (tkF cs (((numF cs (i + 1)).2.2) + 1) (⟨#[63]⟩ : ByteArray))), kv1_.v], det _ 5 _]) [ib r0, Ini.any _, ib r2, iz r3, ib r4, Ini.any _, Ini.any _, Ini.any _, iz r8, iz r9] mixed st37 (by kernel_rfl) ⟨r0, trivial, r2, r3, r4, trivial, trivial, trivial, r8, r9, trivial⟩
    ⟨Ob.d fun c => r_loadN (vs := [(.int .i64 (7)), (.string ((⟨#[]⟩ : ByteArray))), (.bool (false)), (.slice none 0 0), (.int .i64 ((numF cs (i + 1)).1)), (.int .i64 ((numF cs (i + 1)).1)), (.bool (tkF cs (((numF cs (i + 1)).2.2) + 1) (⟨#[63]⟩ : ByteArray))), kv1_.v]) rfl Try.isAgg25 Try.sizeOf25 ((c.p e6).trans r4.ptr) rfl (fun _ _ hj => (c.ib 4 rfl).cell hj),
    Ob.storeBox (off := 0) (v := (.agg #[(.int .i64 (7)), (.string ((⟨#[]⟩ : ByteArray))), (.bool (false)), (.slice none 0 0), (.int .i64 ((numF cs (i + 1)).1)), (.int .i64 ((numF cs (i + 1)).1)), (.bool (tkF cs (((numF cs (i + 1)).2.2) + 1) (⟨#[63]⟩ : ByteArray))), kv1_.v])) rfl rfl rfl rfl Try.sizeOf25 (Nat.le_of_ble_eq_true rfl) (by simp [Value.cells, Value.oneCell', Sv.v]) rfl (fun _ _ _ _ c => ⟨c.bp 2 rfl e4, c.ad ((c.p e4).trans r2.ptr) e4 rfl, (c.n 0 rfl)⟩),
    Ob.d fun c => r_assign rfl rfl, trivial⟩ ?_
   intro a38 w38 τ38 st38 f38
   obtain ⟨e0, e4, -⟩ := f38.ks [(0, _), (4, _)] ⟨e0, e4, trivial⟩
   have e5 : get a38 5 = (.int .i64 (0)) := f38.v 2 rfl
   replace r0 := f38.ib 0 rfl
   replace r2 : boxR 25 [(.int .i64 (7)), (.string ((⟨#[]⟩ : ByteArray))), (.bool (false)), (.slice none 0 0), (.int .i64 ((numF cs (i + 1)).1)), (.int .i64 ((numF cs (i + 1)).1)), (.bool (tkF cs (((numF cs (i + 1)).2.2) + 1) (⟨#[63]⟩ : ByteArray))), kv1_.v] (τ38 2) b1x4 w38 := f38.rb 1 e4 rfl
   replace r3 := f38.iz 3 rfl
   replace r8 := f38.iz 8 rfl
   replace r9 := f38.iz 9 rfl
   clear f38
   show Code.wp _ _ _ a38 w38
   refine wp_ret ?_
   repeat (first | with_reducible refine then_ret ?_ | with_reducible refine block_ret ?_)
   refine ret2c (fn := Try.f56) rfl st38.defers e4 e5 r2 Try.isAgg25 Try.sizeOf25 rfl ?_
   have he_ : timesF cs (er t) i = ((nodeT 7 (⟨#[]⟩ : ByteArray) false ((numF cs (i + 1)).1) ((numF cs (i + 1)).1) (tkF cs (((numF cs (i + 1)).2.2) + 1) (⟨#[63]⟩ : ByteArray)) Sv.nil [er t]), 0, tkN cs (((numF cs (i + 1)).2.2) + 1) (⟨#[63]⟩ : ByteArray)) := by unfold timesF; (repeat (first | rw [if_neg (by first | assumption | (simp only [Bool.not_eq_true]; assumption) | (simp only [Bool.not_eq_false]; assumption) | (exact fun h_ => h_ (by assumption)) | omega)] | rw [if_pos (by first | assumption | omega)])); (try (first | first | exact fin_no | exact fin_bad (by assumption) | (rw [(fin_ok (by assumption)).1]; rfl) | rfl | (rw [(by assumption : numB (numF cs ((numF cs (i + 1)).2.2 + 1)) = true)]; first | exact fin_no | exact fin_bad (by assumption) | (rw [(fin_ok (by assumption)).1]; rfl) | rfl) | (rw [(by assumption : numB (numF cs ((numF cs (i + 1)).2.2 + 1)) = false)]; first | exact fin_no | exact fin_bad (by assumption) | (rw [(fin_ok (by assumption)).1]; rfl) | rfl)))
   rw [he_]
   exact ⟨(nodeT 7 (⟨#[]⟩ : ByteArray) false ((numF cs (i + 1)).1) ((numF cs (i + 1)).1) (tkF cs (((numF cs (i + 1)).2.2) + 1) (⟨#[63]⟩ : ByteArray)) kv1_ [t]), rfl, st38.extIn, r0.foot, (Fz.out (nodeZ r3 (zcons r8 znil))), er_node _ _ _ _ _ _ _ _⟩
 skip
 have htk12 : tkF cs i (⟨#[123]⟩ : ByteArray) = false := hc4
 rw [tkN_f htk12] at r0
 refine wp_seq ?_
 refine region_St (bf := [0, 1, 3]) (sp := [det _ 12 _, box _ _ 2 4 [(.int .i64 (t.k)), (.string (t.ch)), (.bool (t.ng)), t.rv.v, (.int .i64 (t.mn)), (.int .i64 (t.mx)), (.bool (t.lz)), t.kv.v], det _ 5 _]) [ib r0, ib r1, ib r2, iz r3, ib r4, Ini.any _, Ini.any _, Ini.any _, iz r8, iz r9] mixed st15 (by kernel_rfl) ⟨r0, r1, r2, r3, r4, trivial, trivial, trivial, r8, r9, trivial⟩
  ⟨Ob.d fun c => r_loadN (vs := [(.int .i64 (t.k)), (.string (t.ch)), (.bool (t.ng)), t.rv.v, (.int .i64 (t.mn)), (.int .i64 (t.mx)), (.bool (t.lz)), t.kv.v]) rfl Try.isAgg25 Try.sizeOf25 ((c.p e3).trans r1.ptr) rfl (fun _ _ hj => (c.ib 1 rfl).cell hj),
  Ob.storeBox (off := 0) (v := (.agg #[(.int .i64 (t.k)), (.string (t.ch)), (.bool (t.ng)), t.rv.v, (.int .i64 (t.mn)), (.int .i64 (t.mx)), (.bool (t.lz)), t.kv.v])) rfl rfl rfl rfl Try.sizeOf25 (Nat.le_of_ble_eq_true rfl) (by simp [Value.cells, Value.oneCell', Sv.v]) rfl (fun _ _ _ _ c => ⟨c.bp 2 rfl e4, c.ad ((c.p e4).trans r2.ptr) e4 rfl, (c.n 0 rfl)⟩),
  Ob.d fun c => r_assign rfl rfl, trivial⟩ ?_
 intro a39 w39 τ39 st39 f39
 obtain ⟨e0, e4, e6, -⟩ := f39.ks [(0, _), (4, _), (6, _)] ⟨e0, e4, e6, trivial⟩
 have e5 : get a39 5 = (.int .i64 (0)) := f39.v 2 rfl
 replace r0 := f39.ib 0 rfl
 replace r2 : boxR 25 [(.int .i64 (t.k)), (.string (t.ch)), (.bool (t.ng)), t.rv.v, (.int .i64 (t.mn)), (.int .i64 (t.mx)), (.bool (t.lz)), t.kv.v] (τ39 2) b1x4 w39 := f39.rb 1 e4 rfl
 replace r3 := f39.iz 3 rfl
 replace r4 := f39.ib 4 rfl
 replace r8 := f39.iz 8 rfl
 replace r9 := f39.iz 9 rfl
 clear f39
 show Code.wp _ _ _ a39 w39
 refine wp_ret ?_
 repeat (first | with_reducible refine then_ret ?_ | with_reducible refine block_ret ?_)
 refine ret2c (fn := Try.f56) rfl st39.defers e4 e5 r2 Try.isAgg25 Try.sizeOf25 rfl ?_
 have he_ : timesF cs (er t) i = ((er t), 0, i) := by unfold timesF; (repeat (first | rw [if_neg (by first | assumption | (simp only [Bool.not_eq_true]; assumption) | (simp only [Bool.not_eq_false]; assumption) | (exact fun h_ => h_ (by assumption)) | omega)] | rw [if_pos (by first | assumption | omega)])); (try (first | first | exact fin_no | exact fin_bad (by assumption) | (rw [(fin_ok (by assumption)).1]; rfl) | rfl | (rw [(by assumption : numB (numF cs ((numF cs (i + 1)).2.2 + 1)) = true)]; first | exact fin_no | exact fin_bad (by assumption) | (rw [(fin_ok (by assumption)).1]; rfl) | rfl) | (rw [(by assumption : numB (numF cs ((numF cs (i + 1)).2.2 + 1)) = false)]; first | exact fin_no | exact fin_bad (by assumption) | (rw [(fin_ok (by assumption)).1]; rfl) | rfl)))
 rw [he_]
 exact ⟨t, rfl, st39.extIn, r0.foot, r8.out, rfl⟩
end B
end Go.Proofs.Ytocmchlhbniloaa
namespace Go.Proofs.Ytocmchlhbniloaa
namespace B
open Go.RowKit
open Srt
set_option maxRecDepth 100000 in
set_option maxHeartbeats 4000000 in
theorem atom_c (sub : Int → Nat → Tr × Int × Nat) (d : Int) (v : Value) (cv : Sv) (cs : List ByteArray) (i : Nat) (w : World) (hR : RdR 58 v cv cs i w) (hL : CsOk cs) (hi : i ≤ cs.length + 1) (hd : 0 ≤ d ∧ d ≤ 16) (hsub : ∀ (d2 : Int) (j : Nat) (w2 : World), RdR 58 v cv cs j w2 → i < j → j ≤ cs.length → 0 ≤ d2 ∧ d2 ≤ 16 → Calls Try.prog 39 #[v, .int .i64 d2] w2 (fun e w3 => ∃ t' : Tr, e = .returned (.tuple #[t'.v, .int .i64 (sub d2 j).2.1]) ∧ Ext (ptrFoot v) w2 w3 ∧ boxR 58 [cv.v, .int .i64 (((sub d2 j).2.2 : Nat) : Int)] (ptrFoot v) v w3 ∧ TrT (Gn none' w2) w3 t' ∧ er t' = (sub d2 j).1)) (hsb : ∀ (d2 : Int) (j : Nat), (sub d2 j).2.1 = 0 → j ≤ (sub d2 j).2.2 ∧ ((sub d2 j).2.2 ≤ cs.length ∨ (sub d2 j).2.2 = j)) : Calls Try.prog 55 #[v, (.int .i64 (d))] w (fun e w' => ∃ t' : Tr, e = .returned (.tuple #[t'.v, .int .i64 (atomF sub cs d i).2.1]) ∧ Ext (ptrFoot v) w w' ∧ boxR 58 [cv.v, .int .i64 (((atomF sub cs d i).2.2 : Nat) : Int)] (ptrFoot v) v w' ∧ TrT (Gn none' w) w' t' ∧ er t' = (atomF sub cs d i).1) := by
 refine enterIn (ptrFoot v) (fun g hg => hR.box.lt g hg) (n := 100) Try.func55 rfl rfl (Nat.le_of_ble_eq_true rfl) ?_
 intro a0 τ0 ha hτ st0
 have e0 : get a0 0 = v := ha 0 _ rfl
 have e1 : get a0 1 = (.int .i64 (d)) := ha 1 _ rfl
 clear ha
 have hL1 := hL.1
 have r0 : boxR 58 [cv.v, .int .i64 ((i : Nat) : Int)] (τ0 0) v w := by rw [hτ]; exact hR.box
 have r9 : Fz (zSl StrE Al cv.v cs) τ0 w := hR.inz st0
 refine wp_seq ?_
 refine region_St (bf := [0, 0]) (sp := [box _ _ 1 4 [(.int .i64 (0)), (.string ((⟨#[]⟩ : ByteArray))), (.bool (false)), (.slice none 0 0), (.int .i64 (0)), (.int .i64 (0)), (.bool (false)), (.slice none 0 0)], det _ 5 _]) [ib r0, Ini.any _, Ini.any _, Ini.any _, Ini.any _, Ini.any _, Ini.any _, Ini.any _, Ini.any _, iz r9] mixed st0 (by kernel_rfl) ⟨r0, trivial, trivial, trivial, trivial, trivial, trivial, trivial, trivial, r9, trivial⟩
  ⟨Ob.alloc rfl rfl rfl rfl Try.zeroValue25 rfl,
  Ob.d fun c => r_assign rfl rfl, trivial⟩ ?_
 intro a1 w1 τ1 st1 f1
 obtain ⟨b1x4, e4⟩ : ∃ b, get a1 4 = b := ⟨_, rfl⟩
 obtain ⟨e0, e1, -⟩ := f1.ks [(0, _), (1, _)] ⟨e0, e1, trivial⟩
 have e5 : get a1 5 = (.int .i64 (0)) := f1.v 1 rfl
 replace r0 := f1.ib 0 rfl
 have r1 : boxR 25 [(.int .i64 (0)), (.string ((⟨#[]⟩ : ByteArray))), (.bool (false)), (.slice none 0 0), (.int .i64 (0)), (.int .i64 (0)), (.bool (false)), (.slice none 0 0)] (τ1 1) b1x4 w1 := f1.rb 0 e4 rfl
 replace r9 := f1.iz 9 rfl
 clear f1
 show Code.wp _ _ _ a1 w1
 refine wp_seq ?_
 refine wp_block ?_
 refine wp_seq ?_
 refine region_St (bf := [0, 1, 3]) (sp := [det _ 11 _, dbox 58 _ 0 12 v [cv.v, (.int .i64 (((tkN cs i (⟨#[46]⟩ : ByteArray) : Nat) : Int)))] (.bool (tkF cs i (⟨#[46]⟩ : ByteArray))), det _ 10 _]) [ib r0, ib r1, Ini.any _, Ini.any _, Ini.any _, Ini.any _, Ini.any _, Ini.any _, Ini.any _, iz r9] mixed st1 (by kernel_rfl) ⟨r0, r1, trivial, trivial, trivial, trivial, trivial, trivial, trivial, r9, trivial⟩
  ⟨Ob.d fun c => r_move rfl (c.p e0),
  Ob.db fun {_ a_ _ _} c => ⟨_, _, (e_call2 rfl rfl Try.call49 (c.n 0 rfl) rfl), db_of (c.ib 0 rfl) (take_c v cv cs i (⟨#[46]⟩ : ByteArray) _ (rdr (c.ib 0 rfl) (c.iz 9 rfl) (fun g_ h_ hz_ => hz_.2 _ h_)) hL (by first | omega | (have h_ := see_size_le hL i; omega)))⟩,
  Ob.d fun c => r_assign rfl (c.dv 1 rfl), trivial⟩ ?_
 intro a2 w2 τ2 st2 f2
 obtain ⟨e0, e1, e4, e5, -⟩ := f2.ks [(0, _), (1, _), (4, _), (5, _)] ⟨e0, e1, e4, e5, trivial⟩
 have e10 : get a2 10 = (.bool (tkF cs i (⟨#[46]⟩ : ByteArray))) := f2.v 2 rfl
 replace r0 : boxR 58 [cv.v, (.int .i64 (((tkN cs i (⟨#[46]⟩ : ByteArray) : Nat) : Int)))] (τ2 0) v w2 := f2.db 1 rfl
 replace r1 := f2.ib 1 rfl
 replace r9 := f2.iz 9 rfl
 clear f2
 show Code.wp _ _ _ a2 w2
 refine wp_cond_split (t := tkF cs i (⟨#[46]⟩ : ByteArray)) e10 (fun hc1 => ?_) (fun hc1 => ?_)
 · skip
   have htk1 : tkF cs i (⟨#[46]⟩ : ByteArray) = true := hc1
   have htl1 := tk_lt htk1
   rw [tkN_t htk1] at r0
   refine wp_seq ?_
   refine region_St (bf := [0, 1, 3]) (sp := [det _ 13 _, box _ _ 1 4 [(.int .i64 (3)), (.string ((⟨#[]⟩ : ByteArray))), (.bool (false)), (.slice none 0 0), (.int .i64 (0)), (.int .i64 (0)), (.bool (false)), (.slice none 0 0)], det _ 5 _]) [ib r0, ib r1, Ini.any _, Ini.any _, Ini.any _, Ini.any _, Ini.any _, Ini.any _, Ini.any _, iz r9] mixed st2 (by kernel_rfl) ⟨r0, r1, trivial, trivial, trivial, trivial, trivial, trivial, trivial, r9, trivial⟩
    ⟨Ob.d fun c => r_build (cells := #[(.int .i64 (3)), (.string ((⟨#[]⟩ : ByteArray))), (.bool (false)), (.slice none 0 0), (.int .i64 (0)), (.int .i64 (0)), (.bool (false)), (.slice none 0 0)]) rfl Try.underlying25 Try.zeroValue25 (pl := #[(0, 1), (1, 1), (2, 1), (3, 1), (4, 1), (5, 1), (6, 1), (7, 1)]) (fun w_ => by simp [Try.sizeOf22, Try.sizeOf23, Try.sizeOf3, Try.sizeOf4, Try.sizeOf9]) (fill1 rfl rfl),
    Ob.storeBox (off := 0) (v := (.agg #[(.int .i64 (3)), (.string ((⟨#[]⟩ : ByteArray))), (.bool (false)), (.slice none 0 0), (.int .i64 (0)), (.int .i64 (0)), (.bool (false)), (.slice none 0 0)])) rfl rfl rfl rfl Try.sizeOf25 (Nat.le_of_ble_eq_true rfl) (by simp [Value.cells, Value.oneCell', Sv.v]) rfl (fun _ _ _ _ c => ⟨c.bp 1 rfl e4, c.ad ((c.p e4).trans r1.ptr) e4 rfl, (c.n 0 rfl)⟩),
    Ob.d fun c => r_assign rfl rfl, trivial⟩ ?_
   intro a3 w3 τ3 st3 f3
   obtain ⟨e0, e1, e4, -⟩ := f3.ks [(0, _), (1, _), (4, _)] ⟨e0, e1, e4, trivial⟩
   have e5 : get a3 5 = (.int .i64 (0)) := f3.v 2 rfl
   replace r0 := f3.ib 0 rfl
   replace r1 : boxR 25 [(.int .i64 (3)), (.string ((⟨#[]⟩ : ByteArray))), (.bool (false)), (.slice none 0 0), (.int .i64 (0)), (.int .i64 (0)), (.bool (false)), (.slice none 0 0)] (τ3 1) b1x4 w3 := f3.rb 1 e4 rfl
   replace r9 := f3.iz 9 rfl
   clear f3
   show Code.wp _ _ _ a3 w3
   refine wp_ret ?_
   repeat (first | with_reducible refine then_ret ?_ | with_reducible refine block_ret ?_)
   refine ret2c (fn := Try.f55) rfl st3.defers e4 e5 r1 Try.isAgg25 Try.sizeOf25 rfl ?_
   have he_ : atomF sub cs d i = ((leafT 3 (⟨#[]⟩ : ByteArray) false 0 0 false), 0, i + 1) := by unfold atomF; (repeat (first | rw [if_neg (by first | assumption | (simp only [Bool.not_eq_true]; assumption) | (simp only [Bool.not_eq_false]; assumption) | (exact fun h_ => h_ (by assumption)) | omega)] | rw [if_pos (by first | assumption | omega)])); (try rfl)
   rw [he_]
   exact ⟨(leafT 3 (⟨#[]⟩ : ByteArray) false 0 0 false), rfl, st3.extIn, r0.foot, (leafTr _ _ _ _ _ _ _ _), rfl⟩
 skip
 have htk1 : tkF cs i (⟨#[46]⟩ : ByteArray) = false := hc1
 rw [tkN_f htk1] at r0
 refine wp_seq ?_
 refine region_St (bf := [0, 1, 3]) (sp := [det _ 15 _, dbox 58 _ 0 16 v [cv.v, (.int .i64 (((tkN cs i (⟨#[40]⟩ : ByteArray) : Nat) : Int)))] (.bool (tkF cs i (⟨#[40]⟩ : ByteArray))), det _ 14 _]) [ib r0, ib r1, Ini.any _, Ini.any _, Ini.any _, Ini.any _, Ini.any _, Ini.any _, Ini.any _, iz r9] mixed st2 (by kernel_rfl) ⟨r0, r1, trivial, trivial, trivial, trivial, trivial, trivial, trivial, r9, trivial⟩
  ⟨Ob.d fun c => r_move rfl (c.p e0),
  Ob.db fun {_ a_ _ _} c => ⟨_, _, (e_call2 rfl rfl Try.call49 (c.n 0 rfl) rfl), db_of (c.ib 0 rfl) (take_c v cv cs i (⟨#[40]⟩ : ByteArray) _ (rdr (c.ib 0 rfl) (c.iz 9 rfl) (fun g_ h_ hz_ => hz_.2 _ h_)) hL (by first | omega | (have h_ := see_size_le hL i; omega)))⟩,
  Ob.d fun c => r_assign rfl (c.dv 1 rfl), trivial⟩ ?_
 intro a4 w4 τ4 st4 f4
 obtain ⟨e0, e1, e4, e5, -⟩ := f4.ks [(0, _), (1, _), (4, _), (5, _)] ⟨e0, e1, e4, e5, trivial⟩
 have e14 : get a4 14 = (.bool (tkF cs i (⟨#[40]⟩ : ByteArray))) := f4.v 2 rfl
 replace r0 : boxR 58 [cv.v, (.int .i64 (((tkN cs i (⟨#[40]⟩ : ByteArray) : Nat) : Int)))] (τ4 0) v w4 := f4.db 1 rfl
 replace r1 := f4.ib 1 rfl
 replace r9 := f4.iz 9 rfl
 clear f4
 show Code.wp _ _ _ a4 w4
 refine wp_cond_split (t := tkF cs i (⟨#[40]⟩ : ByteArray)) e14 (fun hc2 => ?_) (fun hc2 => ?_)
 · skip
   have htk2 : tkF cs i (⟨#[40]⟩ : ByteArray) = true := hc2
   have htl2 := tk_lt htk2
   rw [tkN_t htk2] at r0
   refine wp_seq ?_
   refine wp_seq ?_
   refine region_St (bf := [0, 1]) (sp := [det _ 17 _, det _ 18 _]) [ib r0, ib r1, Ini.any _, Ini.any _, Ini.any _, Ini.any _, Ini.any _, Ini.any _, Ini.any _, iz r9] mixed st4 (by kernel_rfl) ⟨r0, r1, trivial, trivial, trivial, trivial, trivial, trivial, trivial, r9, trivial⟩
    ⟨Ob.d fun c => r_move rfl (c.p e1),
    Ob.d fun c => r_geq rfl (c.n 0 rfl) rfl, trivial⟩ ?_
   intro a5 w5 τ5 st5 f5
   obtain ⟨e0, e1, e4, e5, -⟩ := f5.ks [(0, _), (1, _), (4, _), (5, _)] ⟨e0, e1, e4, e5, trivial⟩
   have e18 : get a5 18 = (.bool (decide (16 ≤ d))) := f5.v 1 rfl
   replace r0 := f5.ib 0 rfl
   replace r1 := f5.ib 1 rfl
   replace r9 := f5.iz 9 rfl
   clear f5
   show Code.wp _ _ _ a5 w5
   refine wp_cond_split (t := decide (16 ≤ d)) e18 (fun hc3 => ?_) (fun hc3 => ?_)
   · try simp only [decide_eq_true_eq] at hc3
     refine wp_seq ?_
     refine region_St (bf := [0, 1, 3]) (sp := [det _ 19 _, box _ _ 1 4 [(.int .i64 (0)), (.string ((⟨#[]⟩ : ByteArray))), (.bool (false)), (.slice none 0 0), (.int .i64 (0)), (.int .i64 (0)), (.bool (false)), (.slice none 0 0)], det _ 5 _]) [ib r0, ib r1, Ini.any _, Ini.any _, Ini.any _, Ini.any _, Ini.any _, Ini.any _, Ini.any _, iz r9] mixed st5 (by kernel_rfl) ⟨r0, r1, trivial, trivial, trivial, trivial, trivial, trivial, trivial, r9, trivial⟩
      ⟨Ob.d fun c => r_build (cells := #[(.int .i64 (0)), (.string ((⟨#[]⟩ : ByteArray))), (.bool (false)), (.slice none 0 0), (.int .i64 (0)), (.int .i64 (0)), (.bool (false)), (.slice none 0 0)]) rfl Try.underlying25 Try.zeroValue25 (pl := #[(0, 1), (1, 1), (2, 1), (3, 1), (4, 1), (5, 1), (6, 1), (7, 1)]) (fun w_ => by simp [Try.sizeOf22, Try.sizeOf23, Try.sizeOf3, Try.sizeOf4, Try.sizeOf9]) (by simp only [List.map_toArray, List.map_nil]; rfl),
      Ob.storeBox (off := 0) (v := (.agg #[(.int .i64 (0)), (.string ((⟨#[]⟩ : ByteArray))), (.bool (false)), (.slice none 0 0), (.int .i64 (0)), (.int .i64 (0)), (.bool (false)), (.slice none 0 0)])) rfl rfl rfl rfl Try.sizeOf25 (Nat.le_of_ble_eq_true rfl) (by simp [Value.cells, Value.oneCell', Sv.v]) rfl (fun _ _ _ _ c => ⟨c.bp 1 rfl e4, c.ad ((c.p e4).trans r1.ptr) e4 rfl, (c.n 0 rfl)⟩),
      Ob.d fun c => r_assign rfl rfl, trivial⟩ ?_
     intro a6 w6 τ6 st6 f6
     obtain ⟨e0, e1, e4, -⟩ := f6.ks [(0, _), (1, _), (4, _)] ⟨e0, e1, e4, trivial⟩
     have e5 : get a6 5 = (.int .i64 (8)) := f6.v 2 rfl
     replace r0 := f6.ib 0 rfl
     replace r1 : boxR 25 [(.int .i64 (0)), (.string ((⟨#[]⟩ : ByteArray))), (.bool (false)), (.slice none 0 0), (.int .i64 (0)), (.int .i64 (0)), (.bool (false)), (.slice none 0 0)] (τ6 1) b1x4 w6 := f6.rb 1 e4 rfl
     replace r9 := f6.iz 9 rfl
     clear f6
     show Code.wp _ _ _ a6 w6
     refine wp_ret ?_
     repeat (first | with_reducible refine then_ret ?_ | with_reducible refine block_ret ?_)
     refine ret2c (fn := Try.f55) rfl st6.defers e4 e5 r1 Try.isAgg25 Try.sizeOf25 rfl ?_
     have he_ : atomF sub cs d i = ((leafT 0 (⟨#[]⟩ : ByteArray) false 0 0 false), 8, i + 1) := by unfold atomF; (repeat (first | rw [if_neg (by first | assumption | (simp only [Bool.not_eq_true]; assumption) | (simp only [Bool.not_eq_false]; assumption) | (exact fun h_ => h_ (by assumption)) | omega)] | rw [if_pos (by first | assumption | omega)])); (try rfl)
     rw [he_]
     exact ⟨(leafT 0 (⟨#[]⟩ : ByteArray) false 0 0 false), rfl, st6.extIn, r0.foot, (leafTr _ _ _ _ _ _ _ _), rfl⟩
   try simp only [decide_eq_false_iff_not, Int.not_le] at hc3
   refine wp_skip ?_
   show Code.wp _ _ _ a5 w5
   refine wp_seq ?_
   refine region_St (bf := [0, 0, 3]) (sp := [det _ 20 _, box _ _ 2 6 [(.int .i64 (0)), (.string ((⟨#[]⟩ : ByteArray))), (.bool (false)), (.slice none 0 0), (.int .i64 (0)), (.int .i64 (0)), (.bool (false)), (.slice none 0 0)], box _ _ 2 6 [(.int .i64 (5)), (.string ((⟨#[]⟩ : ByteArray))), (.bool (false)), (.slice none 0 0), (.int .i64 (0)), (.int .i64 (0)), (.bool (false)), (.slice none 0 0)]]) [ib r0, ib r1, Ini.any _, Ini.any _, Ini.any _, Ini.any _, Ini.any _, Ini.any _, Ini.any _, iz r9] mixed st5 (by kernel_rfl) ⟨r0, r1, trivial, trivial, trivial, trivial, trivial, trivial, trivial, r9, trivial⟩
    ⟨Ob.d fun c => r_build (cells := #[(.int .i64 (5)), (.string ((⟨#[]⟩ : ByteArray))), (.bool (false)), (.slice none 0 0), (.int .i64 (0)), (.int .i64 (0)), (.bool (false)), (.slice none 0 0)]) rfl Try.underlying25 Try.zeroValue25 (pl := #[(0, 1), (1, 1), (2, 1), (3, 1), (4, 1), (5, 1), (6, 1), (7, 1)]) (fun w_ => by simp [Try.sizeOf22, Try.sizeOf23, Try.sizeOf3, Try.sizeOf4, Try.sizeOf9]) (fill1 rfl rfl),
    Ob.alloc rfl rfl rfl rfl Try.zeroValue25 rfl,
    Ob.storeBox (off := 0) (v := (.agg #[(.int .i64 (5)), (.string ((⟨#[]⟩ : ByteArray))), (.bool (false)), (.slice none 0 0), (.int .i64 (0)), (.int .i64 (0)), (.bool (false)), (.slice none 0 0)])) rfl rfl rfl rfl Try.sizeOf25 (Nat.le_of_ble_eq_true rfl) (by simp [Value.cells, Value.oneCell', Sv.v]) rfl (fun _ _ _ _ c => ⟨c.rb 1 rfl, (c.rb 1 rfl).ptr, (c.n 0 rfl)⟩), trivial⟩ ?_
   intro a7 w7 τ7 st7 f7
   obtain ⟨b7x6, e6⟩ : ∃ b, get a7 6 = b := ⟨_, rfl⟩
   obtain ⟨e0, e1, e4, e5, -⟩ := f7.ks [(0, _), (1, _), (4, _), (5, _)] ⟨e0, e1, e4, e5, trivial⟩
   replace r0 := f7.ib 0 rfl
   replace r1 := f7.ib 1 rfl
   have r2 : boxR 25 [(.int .i64 (5)), (.string ((⟨#[]⟩ : ByteArray))), (.bool (false)), (.slice none 0 0), (.int .i64 (0)), (.int .i64 (0)), (.bool (false)), (.slice none 0 0)] (τ7 2) b7x6 w7 := f7.rb 2 e6 rfl
   replace r9 := f7.iz 9 rfl
   clear f7
   show Code.wp _ _ _ a7 w7
   refine wp_seq ?_
   refine wp_seq ?_
   refine region_St (bf := [0, 1]) (sp := [det _ 21 _, dbox 58 _ 0 22 v [cv.v, (.int .i64 (((tkN cs (i + 1) (⟨#[63]⟩ : ByteArray) : Nat) : Int)))] (.bool (tkF cs (i + 1) (⟨#[63]⟩ : ByteArray)))]) [ib r0, ib r1, ib r2, Ini.any _, Ini.any _, Ini.any _, Ini.any _, Ini.any _, Ini.any _, iz r9] mixed st7 (by kernel_rfl) ⟨r0, r1, r2, trivial, trivial, trivial, trivial, trivial, trivial, r9, trivial⟩
    ⟨Ob.d fun c => r_move rfl (c.p e0),
    Ob.db fun {_ a_ _ _} c => ⟨_, _, (e_call2 rfl rfl Try.call49 (c.n 0 rfl) rfl), db_of (c.ib 0 rfl) (take_c v cv cs (i + 1) (⟨#[63]⟩ : ByteArray) _ (rdr (c.ib 0 rfl) (c.iz 9 rfl) (fun g_ h_ hz_ => hz_.2 _ h_)) hL (by first | omega | (have h_ := see_size_le hL i; omega)))⟩, trivial⟩ ?_
   intro a8 w8 τ8 st8 f8
   obtain ⟨e0, e1, e4, e5, e6, -⟩ := f8.ks [(0, _), (1, _), (4, _), (5, _), (6, _)] ⟨e0, e1, e4, e5, e6, trivial⟩
   have e22 : get a8 22 = (.bool (tkF cs (i + 1) (⟨#[63]⟩ : ByteArray))) := f8.dv 1 rfl
   replace r0 : boxR 58 [cv.v, (.int .i64 (((tkN cs (i + 1) (⟨#[63]⟩ : ByteArray) : Nat) : Int)))] (τ8 0) v w8 := f8.db 1 rfl
   replace r1 := f8.ib 1 rfl
   replace r2 := f8.ib 2 rfl
   replace r9 := f8.iz 9 rfl
   clear f8
   show Code.wp _ _ _ a8 w8
   refine wp_cond_split (t := tkF cs (i + 1) (⟨#[63]⟩ : ByteArray)) e22 (fun hc4 => ?_) (fun hc4 => ?_)
   · skip
     have htk4 : tkF cs (i + 1) (⟨#[63]⟩ : ByteArray) = true := hc4
     have htl4 := tk_lt htk4
     rw [tkN_t htk4] at r0
     refine wp_seq ?_
     refine wp_seq ?_
     refine region_St (bf := [0, 1, 3]) (sp := [det _ 23 _, dbox 58 _ 0 24 v [cv.v, (.int .i64 (((tkN cs ((i + 1) + 1) (⟨#[58]⟩ : ByteArray) : Nat) : Int)))] (.bool (tkF cs ((i + 1) + 1) (⟨#[58]⟩ : ByteArray))), det _ 25 _]) [ib r0, ib r1, ib r2, Ini.any _, Ini.any _, Ini.any _, Ini.any _, Ini.any _, Ini.any _, iz r9] mixed st8 (by kernel_rfl) ⟨r0, r1, r2, trivial, trivial, trivial, trivial, trivial, trivial, r9, trivial⟩
      ⟨Ob.d fun c => r_move rfl (c.p e0),
      Ob.db fun {_ a_ _ _} c => ⟨_, _, (e_call2 rfl rfl Try.call49 (c.n 0 rfl) rfl), db_of (c.ib 0 rfl) (take_c v cv cs ((i + 1) + 1) (⟨#[58]⟩ : ByteArray) _ (rdr (c.ib 0 rfl) (c.iz 9 rfl) (fun g_ h_ hz_ => hz_.2 _ h_)) hL (by first | omega | (have h_ := see_size_le hL i; omega)))⟩,
      Ob.d fun c => r_not rfl (c.dv 1 rfl), trivial⟩ ?_
     intro a9 w9 τ9 st9 f9
     obtain ⟨e0, e1, e4, e5, e6, -⟩ := f9.ks [(0, _), (1, _), (4, _), (5, _), (6, _)] ⟨e0, e1, e4, e5, e6, trivial⟩
     have e25 : get a9 25 = (.bool (!(tkF cs ((i + 1) + 1) (⟨#[58]⟩ : ByteArray)))) := f9.v 2 rfl
     replace r0 : boxR 58 [cv.v, (.int .i64 (((tkN cs ((i + 1) + 1) (⟨#[58]⟩ : ByteArray) : Nat) : Int)))] (τ9 0) v w9 := f9.db 1 rfl
     replace r1 := f9.ib 1 rfl
     replace r2 := f9.ib 2 rfl
     replace r9 := f9.iz 9 rfl
     clear f9
     show Code.wp _ _ _ a9 w9
     refine wp_cond_split (t := !(tkF cs ((i + 1) + 1) (⟨#[58]⟩ : ByteArray))) e25 (fun hc5 => ?_) (fun hc5 => ?_)
     · try simp only [Bool.not_eq_true', Bool.not_eq_false'] at hc5
       have htk5 : tkF cs ((i + 1) + 1) (⟨#[58]⟩ : ByteArray) = false := by simpa using hc5
       rw [tkN_f htk5] at r0
       refine wp_seq ?_
       refine region_St (bf := [0, 1, 3]) (sp := [det _ 26 _, box _ _ 1 4 [(.int .i64 (0)), (.string ((⟨#[]⟩ : ByteArray))), (.bool (false)), (.slice none 0 0), (.int .i64 (0)), (.int .i64 (0)), (.bool (false)), (.slice none 0 0)], det _ 5 _]) [ib r0, ib r1, ib r2, Ini.any _, Ini.any _, Ini.any _, Ini.any _, Ini.any _, Ini.any _, iz r9] mixed st9 (by kernel_rfl) ⟨r0, r1, r2, trivial, trivial, trivial, trivial, trivial, trivial, r9, trivial⟩
        ⟨Ob.d fun c => r_build (cells := #[(.int .i64 (0)), (.string ((⟨#[]⟩ : ByteArray))), (.bool (false)), (.slice none 0 0), (.int .i64 (0)), (.int .i64 (0)), (.bool (false)), (.slice none 0 0)]) rfl Try.underlying25 Try.zeroValue25 (pl := #[(0, 1), (1, 1), (2, 1), (3, 1), (4, 1), (5, 1), (6, 1), (7, 1)]) (fun w_ => by simp [Try.sizeOf22, Try.sizeOf23, Try.sizeOf3, Try.sizeOf4, Try.sizeOf9]) (by simp only [List.map_toArray, List.map_nil]; rfl),
        Ob.storeBox (off := 0) (v := (.agg #[(.int .i64 (0)), (.string ((⟨#[]⟩ : ByteArray))), (.bool (false)), (.slice none 0 0), (.int .i64 (0)), (.int .i64 (0)), (.bool (false)), (.slice none 0 0)])) rfl rfl rfl rfl Try.sizeOf25 (Nat.le_of_ble_eq_true rfl) (by simp [Value.cells, Value.oneCell', Sv.v]) rfl (fun _ _ _ _ c => ⟨c.bp 1 rfl e4, c.ad ((c.p e4).trans r1.ptr) e4 rfl, (c.n 0 rfl)⟩),
        Ob.d fun c => r_assign rfl rfl, trivial⟩ ?_
       intro a10 w10 τ10 st10 f10
       obtain ⟨e0, e1, e4, e6, -⟩ := f10.ks [(0, _), (1, _), (4, _), (6, _)] ⟨e0, e1, e4, e6, trivial⟩
       have e5 : get a10 5 = (.int .i64 (10)) := f10.v 2 rfl
       replace r0 := f10.ib 0 rfl
       replace r1 : boxR 25 [(.int .i64 (0)), (.string ((⟨#[]⟩ : ByteArray))), (.bool (false)), (.slice none 0 0), (.int .i64 (0)), (.int .i64 (0)), (.bool (false)), (.slice none 0 0)] (τ10 1) b1x4 w10 := f10.rb 1 e4 rfl
       replace r2 := f10.ib 2 rfl
       replace r9 := f10.iz 9 rfl
       clear f10
       show Code.wp _ _ _ a10 w10
       refine wp_ret ?_
       repeat (first | with_reducible refine then_ret ?_ | with_reducible refine block_ret ?_)
       refine ret2c (fn := Try.f55) rfl st10.defers e4 e5 r1 Try.isAgg25 Try.sizeOf25 rfl ?_
       have he_ : atomF sub cs d i = ((leafT 0 (⟨#[]⟩ : ByteArray) false 0 0 false), 10, (i + 1) + 1) := by unfold atomF; (repeat (first | rw [if_neg (by first | assumption | (simp only [Bool.not_eq_true]; assumption) | (simp only [Bool.not_eq_false]; assumption) | (exact fun h_ => h_ (by assumption)) | omega)] | rw [if_pos (by first | assumption | omega)])); (try rfl)
       rw [he_]
       exact ⟨(leafT 0 (⟨#[]⟩ : ByteArray) false 0 0 false), rfl, st10.extIn, r0.foot, (leafTr _ _ _ _ _ _ _ _), rfl⟩
     try simp only [Bool.not_eq_true', Bool.not_eq_false'] at hc5
     have htk5 : tkF cs ((i + 1) + 1) (⟨#[58]⟩ : ByteArray) = true := by simpa using hc5
     have htl5 := tk_lt htk5
     rw [tkN_t htk5] at r0
     refine wp_skip ?_
     show Code.wp _ _ _ a9 w9
     refine region_St (bf := [0, 1]) (sp := [det _ 27 _, box _ _ 2 6 [(.int .i64 (6)), (.string ((⟨#[]⟩ : ByteArray))), (.bool (false)), (.slice none 0 0), (.int .i64 (0)), (.int .i64 (0)), (.bool (false)), (.slice none 0 0)]]) [ib r0, ib r1, ib r2, Ini.any _, Ini.any _, Ini.any _, Ini.any _, Ini.any _, Ini.any _, iz r9] mixed st9 (by kernel_rfl) ⟨r0, r1, r2, trivial, trivial, trivial, trivial, trivial, trivial, r9, trivial⟩
      ⟨Ob.d fun c => r_fieldAddr rfl Try.underlying25 rfl rfl Try.sizeOf3 ((c.p e6).trans r2.ptr),
      Ob.storeBox (off := 0) (v := (.int .i64 (6))) rfl rfl rfl rfl Try.sizeOf3 (Nat.le_of_ble_eq_true rfl) (by simp [Value.cells, Value.oneCell', Sv.v]) rfl (fun _ _ _ _ c => ⟨c.bp 2 rfl e6, c.ad (c.n 0 rfl) e6 rfl, rfl⟩), trivial⟩ ?_
     intro a11 w11 τ11 st11 f11
     obtain ⟨e0, e1, e4, e5, e6, -⟩ := f11.ks [(0, _), (1, _), (4, _), (5, _), (6, _)] ⟨e0, e1, e4, e5, e6, trivial⟩
     replace r0 := f11.ib 0 rfl
     replace r1 := f11.ib 1 rfl
     replace r2 : boxR 25 [(.int .i64 (6)), (.string ((⟨#[]⟩ : ByteArray))), (.bool (false)), (.slice none 0 0), (.int .i64 (0)), (.int .i64 (0)), (.bool (false)), (.slice none 0 0)] (τ11 2) b7x6 w11 := f11.rb 1 e6 rfl
     replace r9 := f11.iz 9 rfl
     clear f11
     show Code.wp _ _ _ a11 w11
     refine wp_seq ?_
     refine region_of_ops ?_
     refine ops_cut 4 (by kernel_rfl) ?_
     refine ops_St (bf := [0, 0, 2, 7]) (sp := [det _ 29 _, det _ 30 _, det _ 31 _, zbox 58 _ 0 32 (v) (fun b : Tr => [cv.v, .int .i64 (((sub (d + 1) (((i + 1) + 1) + 1)).2.2 : Nat) : Int)]) (fun b : Tr => .tuple #[b.v, .int .i64 (sub (d + 1) (((i + 1) + 1) + 1)).2.1]) (fun b : Tr => er b = (sub (d + 1) (((i + 1) + 1) + 1)).1) (fun b : Tr => zTr (Gn none' w) b)]) [ib r0, ib r1, ib r2, Ini.any _, Ini.any _, Ini.any _, Ini.any _, Ini.any _, Ini.any _, iz r9] st11 (by kernel_rfl) ⟨r0, r1, r2, trivial, trivial, trivial, trivial, trivial, trivial, r9, trivial⟩
      ⟨Ob.d fun c => r_move rfl (c.p e0),
      Ob.d fun c => r_move rfl (c.p e1),
      Ob.d fun c => r_add rfl (c.n 1 rfl) rfl (by first | omega | (have h_ := see_size_le hL i; omega)),
      Ob.zb (cells := fun b : Tr => [cv.v, .int .i64 (((sub (d + 1) (((i + 1) + 1) + 1)).2.2 : Nat) : Int)]) (f := fun b : Tr => .tuple #[b.v, .int .i64 (sub (d + 1) (((i + 1) + 1) + 1)).2.1]) (Ψ := fun b : Tr => er b = (sub (d + 1) (((i + 1) + 1) + 1)).1) (Φ := fun b : Tr => zTr (Gn none' w) b) fun {_ a_ _ _} c => ⟨_, _, (e_call2 rfl rfl Try.call39 (c.n 0 rfl) (c.n 2 rfl)), (hsub (d + 1) (((i + 1) + 1) + 1) _ (rdr (c.ib 0 rfl) (c.iz 9 rfl) (fun g_ h_ hz_ => hz_.2 _ h_)) (by first | omega | (have h_ := see_size_le hL i; omega)) (by first | omega | (have h_ := see_size_le hL i; omega)) (by first | omega | (have h_ := see_size_le hL i; omega))).mono (fun e w' ⟨b_, he_, hx_, hb_, ht_, hq_⟩ => ⟨b_, he_, (c.ib 0 rfl).ext hx_, hb_.back (c.ib 0 rfl), hq_, c.tns st11 hx_.size ht_⟩)⟩, trivial⟩ ?_
     intro a12 w12 τ12 st12 f12
     obtain ⟨e0, e4, e5, e6, -⟩ := f12.ks [(0, _), (4, _), (5, _), (6, _)] ⟨e0, e4, e5, e6, trivial⟩
     obtain ⟨t1_, e32, hro12, hqt1_, hz12⟩ := f12.zb 3 rfl
     have e32 : get a12 32 = (.tuple #[(.agg #[(.int .i64 (t1_.k)), (.string (t1_.ch)), (.bool (t1_.ng)), t1_.rv.v, (.int .i64 (t1_.mn)), (.int .i64 (t1_.mx)), (.bool (t1_.lz)), t1_.kv.v]), (.int .i64 ((sub (d + 1) (((i + 1) + 1) + 1)).2.1))]) := e32
     replace r0 : boxR 58 [cv.v, (.int .i64 ((((sub (d + 1) (((i + 1) + 1) + 1)).2.2 : Nat) : Int)))] (τ12 0) v w12 := hro12
     replace r1 := f12.ib 1 rfl
     replace r2 := f12.ib 2 rfl
     replace r9 := f12.iz 9 rfl
     have r3 : Fz (zTr (Gn none' w) t1_) τ12 w12 := hz12
     clear f12
     refine only_mk ?_
     refine ops_St (bf := [0, 1, 3, 7, 15, 31]) (sp := [det _ 28 _, det _ 33 _, det _ 34 _, box _ _ 4 7 [(.int .i64 (0)), (.string ((⟨#[]⟩ : ByteArray))), (.bool (false)), (.slice none 0 0), (.int .i64 (0)), (.int .i64 (0)), (.bool (false)), (.slice none 0 0)], box _ _ 4 7 [(.int .i64 (t1_.k)), (.string (t1_.ch)), (.bool (t1_.ng)), t1_.rv.v, (.int .i64 (t1_.mn)), (.int .i64 (t1_.mx)), (.bool (t1_.lz)), t1_.kv.v], det _ 8 _]) [ib r0, ib r1, ib r2, iz r3, Ini.any _, Ini.any _, Ini.any _, Ini.any _, Ini.any _, iz r9] st12 (by kernel_rfl) ⟨r0, r1, r2, r3, trivial, trivial, trivial, trivial, trivial, r9, trivial⟩
      ⟨Ob.d fun c => r_move rfl (c.p e32),
      Ob.d fun c => r_extract rfl (c.n 0 rfl) rfl,
      Ob.d fun c => r_extract rfl (c.n 0 rfl) rfl,
      Ob.alloc rfl rfl rfl rfl Try.zeroValue25 rfl,
      Ob.storeBox (off := 0) (v := (.agg #[(.int .i64 (t1_.k)), (.string (t1_.ch)), (.bool (t1_.ng)), t1_.rv.v, (.int .i64 (t1_.mn)), (.int .i64 (t1_.mx)), (.bool (t1_.lz)), t1_.kv.v])) rfl rfl rfl rfl Try.sizeOf25 (Nat.le_of_ble_eq_true rfl) (by simp [Value.cells, Value.oneCell', Sv.v]) rfl (fun _ _ _ _ c => ⟨c.rb 3 rfl, (c.rb 3 rfl).ptr, (c.n 1 rfl)⟩),
      Ob.d fun c => r_assign rfl (c.n 2 rfl), trivial⟩ ?_
     intro a13 w13 τ13 st13 f13
     obtain ⟨b13x7, e7⟩ : ∃ b, get a13 7 = b := ⟨_, rfl⟩
     obtain ⟨e0, e4, e5, e6, -⟩ := f13.ks [(0, _), (4, _), (5, _), (6, _)] ⟨e0, e4, e5, e6, trivial⟩
     have e8 : get a13 8 = (.int .i64 ((sub (d + 1) (((i + 1) + 1) + 1)).2.1)) := f13.v 5 rfl
     replace r0 := f13.ib 0 rfl
     replace r1 := f13.ib 1 rfl
     replace r2 := f13.ib 2 rfl
     replace r3 := f13.iz 3 rfl
     have r4 : boxR 25 [(.int .i64 (t1_.k)), (.string (t1_.ch)), (.bool (t1_.ng)), t1_.rv.v, (.int .i64 (t1_.mn)), (.int .i64 (t1_.mx)), (.bool (t1_.lz)), t1_.kv.v] (τ13 4) b13x7 w13 := f13.rb 4 e7 rfl
     replace r9 := f13.iz 9 rfl
     clear f13
     show Code.wp _ _ _ a13 w13
     refine wp_seq ?_
     refine wp_seq ?_
     refine region_St (bf := [0, 1]) (sp := [det _ 35 _, det _ 36 _]) [ib r0, ib r1, ib r2, iz r3, ib r4, Ini.any _, Ini.any _, Ini.any _, Ini.any _, iz r9] mixed st13 (by kernel_rfl) ⟨r0, r1, r2, r3, r4, trivial, trivial, trivial, trivial, r9, trivial⟩
      ⟨Ob.d fun c => r_move rfl (c.p e8),
      Ob.d fun c => r_neq rfl (c.n 0 rfl) rfl, trivial⟩ ?_
     intro a14 w14 τ14 st14 f14
     obtain ⟨e0, e4, e5, e6, e7, e8, -⟩ := f14.ks [(0, _), (4, _), (5, _), (6, _), (7, _), (8, _)] ⟨e0, e4, e5, e6, e7, e8, trivial⟩
     have e36 : get a14 36 = (.bool (!decide ((sub (d + 1) (((i + 1) + 1) + 1)).2.1 = 0))) := f14.v 1 rfl
     replace r0 := f14.ib 0 rfl
     replace r1 := f14.ib 1 rfl
     replace r2 := f14.ib 2 rfl
     replace r3 := f14.iz 3 rfl
     replace r4 := f14.ib 4 rfl
     replace r9 := f14.iz 9 rfl
     clear f14
     show Code.wp _ _ _ a14 w14
     refine wp_cond_split (t := !decide ((sub (d + 1) (((i + 1) + 1) + 1)).2.1 = 0)) e36 (fun hc6 => ?_) (fun hc6 => ?_)
     · try simp only [Bool.not_eq_true', Bool.not_eq_false', decide_eq_true_eq, decide_eq_false_iff_not] at hc6
       refine wp_seq ?_
       refine region_St (bf := [0, 0, 1, 7]) (sp := [det _ 37 _, det _ 38 _, box _ _ 1 4 [(.int .i64 (0)), (.string ((⟨#[]⟩ : ByteArray))), (.bool (false)), (.slice none 0 0), (.int .i64 (0)), (.int .i64 (0)), (.bool (false)), (.slice none 0 0)], det _ 5 _]) [ib r0, ib r1, ib r2, iz r3, ib r4, Ini.any _, Ini.any _, Ini.any _, Ini.any _, iz r9] mixed st14 (by kernel_rfl) ⟨r0, r1, r2, r3, r4, trivial, trivial, trivial, trivial, r9, trivial⟩
        ⟨Ob.d fun c => r_build (cells := #[(.int .i64 (0)), (.string ((⟨#[]⟩ : ByteArray))), (.bool (false)), (.slice none 0 0), (.int .i64 (0)), (.int .i64 (0)), (.bool (false)), (.slice none 0 0)]) rfl Try.underlying25 Try.zeroValue25 (pl := #[(0, 1), (1, 1), (2, 1), (3, 1), (4, 1), (5, 1), (6, 1), (7, 1)]) (fun w_ => by simp [Try.sizeOf22, Try.sizeOf23, Try.sizeOf3, Try.sizeOf4, Try.sizeOf9]) (by simp only [List.map_toArray, List.map_nil]; rfl),
        Ob.d fun c => r_move rfl (c.p e8),
        Ob.storeBox (off := 0) (v := (.agg #[(.int .i64 (0)), (.string ((⟨#[]⟩ : ByteArray))), (.bool (false)), (.slice none 0 0), (.int .i64 (0)), (.int .i64 (0)), (.bool (false)), (.slice none 0 0)])) rfl rfl rfl rfl Try.sizeOf25 (Nat.le_of_ble_eq_true rfl) (by simp [Value.cells, Value.oneCell', Sv.v]) rfl (fun _ _ _ _ c => ⟨c.bp 1 rfl e4, c.ad ((c.p e4).trans r1.ptr) e4 rfl, (c.n 0 rfl)⟩),
        Ob.d fun c => r_assign rfl (c.n 1 rfl), trivial⟩ ?_
       intro a15 w15 τ15 st15 f15
       obtain ⟨e0, e4, e6, e7, -⟩ := f15.ks [(0, _), (4, _), (6, _), (7, _)] ⟨e0, e4, e6, e7, trivial⟩
       have e5 : get a15 5 = (.int .i64 ((sub (d + 1) (((i + 1) + 1) + 1)).2.1)) := f15.v 3 rfl
       replace r0 := f15.ib 0 rfl
       replace r1 : boxR 25 [(.int .i64 (0)), (.string ((⟨#[]⟩ : ByteArray))), (.bool (false)), (.slice none 0 0), (.int .i64 (0)), (.int .i64 (0)), (.bool (false)), (.slice none 0 0)] (τ15 1) b1x4 w15 := f15.rb 2 e4 rfl
       replace r2 := f15.ib 2 rfl
       replace r3 := f15.iz 3 rfl
       replace r4 := f15.ib 4 rfl
       replace r9 := f15.iz 9 rfl
       clear f15
       show Code.wp _ _ _ a15 w15
       refine wp_ret ?_
       repeat (first | with_reducible refine then_ret ?_ | with_reducible refine block_ret ?_)
       refine ret2c (fn := Try.f55) rfl st15.defers e4 e5 r1 Try.isAgg25 Try.sizeOf25 rfl ?_
       have he_ : atomF sub cs d i = ((leafT 0 (⟨#[]⟩ : ByteArray) false 0 0 false), (sub (d + 1) (((i + 1) + 1) + 1)).2.1, (sub (d + 1) (((i + 1) + 1) + 1)).2.2) := by unfold atomF; (repeat (first | rw [if_neg (by first | assumption | (simp only [Bool.not_eq_true]; assumption) | (simp only [Bool.not_eq_false]; assumption) | (exact fun h_ => h_ (by assumption)) | omega)] | rw [if_pos (by first | assumption | omega)])); (try rfl)
       rw [he_]
       exact ⟨(leafT 0 (⟨#[]⟩ : ByteArray) false 0 0 false), rfl, st15.extIn, r0.foot, (leafTr _ _ _ _ _ _ _ _), rfl⟩
     try simp only [Bool.not_eq_true', Bool.not_eq_false', decide_eq_true_eq, decide_eq_false_iff_not] at hc6
     refine wp_skip ?_
     show Code.wp _ _ _ a14 w14
     refine wp_seq ?_
     refine wp_seq ?_
     have hsb_ := hsb (d + 1) (((i + 1) + 1) + 1) (by omega)
     refine region_St (bf := [0, 1, 3]) (sp := [det _ 39 _, dbox 58 _ 0 40 v [cv.v, (.int .i64 (((tkN cs ((sub (d + 1) (((i + 1) + 1) + 1)).2.2) (⟨#[41]⟩ : ByteArray) : Nat) : Int)))] (.bool (tkF cs ((sub (d + 1) (((i + 1) + 1) + 1)).2.2) (⟨#[41]⟩ : ByteArray))), det _ 41 _]) [ib r0, ib r1, ib r2, iz r3, ib r4, Ini.any _, Ini.any _, Ini.any _, Ini.any _, iz r9] mixed st14 (by kernel_rfl) ⟨r0, r1, r2, r3, r4, trivial, trivial, trivial, trivial, r9, trivial⟩
      ⟨Ob.d fun c => r_move rfl (c.p e0),
      Ob.db fun {_ a_ _ _} c => ⟨_, _, (e_call2 rfl rfl Try.call49 (c.n 0 rfl) rfl), db_of (c.ib 0 rfl) (take_c v cv cs ((sub (d + 1) (((i + 1) + 1) + 1)).2.2) (⟨#[41]⟩ : ByteArray) _ (rdr (c.ib 0 rfl) (c.iz 9 rfl) (fun g_ h_ hz_ => hz_.2 _ h_)) hL (by first | omega | (have h_ := see_size_le hL i; omega)))⟩,
      Ob.d fun c => r_not rfl (c.dv 1 rfl), trivial⟩ ?_
     intro a16 w16 τ16 st16 f16
     obtain ⟨e0, e4, e5, e6, e7, -⟩ := f16.ks [(0, _), (4, _), (5, _), (6, _), (7, _)] ⟨e0, e4, e5, e6, e7, trivial⟩
     have e41 : get a16 41 = (.bool (!(tkF cs ((sub (d + 1) (((i + 1) + 1) + 1)).2.2) (⟨#[41]⟩ : ByteArray)))) := f16.v 2 rfl
     replace r0 : boxR 58 [cv.v, (.int .i64 (((tkN cs ((sub (d + 1) (((i + 1) + 1) + 1)).2.2) (⟨#[41]⟩ : ByteArray) : Nat) : Int)))] (τ16 0) v w16 := f16.db 1 rfl
     replace r1 := f16.ib 1 rfl
     replace r2 := f16.ib 2 rfl
     replace r3 := f16.iz 3 rfl
     replace r4 := f16.ib 4 rfl
     replace r9 := f16.iz 9 rfl
     clear f16
     show Code.wp _ _ _ a16 w16
     refine wp_cond_split (t := !(tkF cs ((sub (d + 1) (((i + 1) + 1) + 1)).2.2) (⟨#[41]⟩ : ByteArray))) e41 (fun hc7 => ?_) (fun hc7 => ?_)
     · try simp only [Bool.not_eq_true', Bool.not_eq_false'] at hc7
       have htk7 : tkF cs ((sub (d + 1) (((i + 1) + 1) + 1)).2.2) (⟨#[41]⟩ : ByteArray) = false := by simpa using hc7
       rw [tkN_f htk7] at r0
       refine wp_seq ?_
       refine region_St (bf := [0, 1, 3]) (sp := [det _ 42 _, box _ _ 1 4 [(.int .i64 (0)), (.string ((⟨#[]⟩ : ByteArray))), (.bool (false)), (.slice none 0 0), (.int .i64 (0)), (.int .i64 (0)), (.bool (false)), (.slice none 0 0)], det _ 5 _]) [ib r0, ib r1, ib r2, iz r3, ib r4, Ini.any _, Ini.any _, Ini.any _, Ini.any _, iz r9] mixed st16 (by kernel_rfl) ⟨r0, r1, r2, r3, r4, trivial, trivial, trivial, trivial, r9, trivial⟩
        ⟨Ob.d fun c => r_build (cells := #[(.int .i64 (0)), (.string ((⟨#[]⟩ : ByteArray))), (.bool (false)), (.slice none 0 0), (.int .i64 (0)), (.int .i64 (0)), (.bool (false)), (.slice none 0 0)]) rfl Try.underlying25 Try.zeroValue25 (pl := #[(0, 1), (1, 1), (2, 1), (3, 1), (4, 1), (5, 1), (6, 1), (7, 1)]) (fun w_ => by simp [Try.sizeOf22, Try.sizeOf23, Try.sizeOf3, Try.sizeOf4, Try.sizeOf9]) (by simp only [List.map_toArray, List.map_nil]; rfl),
        Ob.storeBox (off := 0) (v := (.agg #[(.int .i64 (0)), (.string ((⟨#[]⟩ : ByteArray))), (.bool (false)), (.slice none 0 0), (.int .i64 (0)), (.int .i64 (0)), (.bool (false)), (.slice none 0 0)])) rfl rfl rfl rfl Try.sizeOf25 (Nat.le_of_ble_eq_true rfl) (by simp [Value.cells, Value.oneCell', Sv.v]) rfl (fun _ _ _ _ c => ⟨c.bp 1 rfl e4, c.ad ((c.p e4).trans r1.ptr) e4 rfl, (c.n 0 rfl)⟩),
        Ob.d fun c => r_assign rfl rfl, trivial⟩ ?_
       intro a17 w17 τ17 st17 f17
       obtain ⟨e0, e4, e6, e7, -⟩ := f17.ks [(0, _), (4, _), (6, _), (7, _)] ⟨e0, e4, e6, e7, trivial⟩
       have e5 : get a17 5 = (.int .i64 (10)) := f17.v 2 rfl
       replace r0 := f17.ib 0 rfl
       replace r1 : boxR 25 [(.int .i64 (0)), (.string ((⟨#[]⟩ : ByteArray))), (.bool (false)), (.slice none 0 0), (.int .i64 (0)), (.int .i64 (0)), (.bool (false)), (.slice none 0 0)] (τ17 1) b1x4 w17 := f17.rb 1 e4 rfl
       replace r2 := f17.ib 2 rfl
       replace r3 := f17.iz 3 rfl
       replace r4 := f17.ib 4 rfl
       replace r9 := f17.iz 9 rfl
       clear f17
       show Code.wp _ _ _ a17 w17
       refine wp_ret ?_
       repeat (first | with_reducible refine then_ret ?_ | with_reducible refine block_ret ?_)
       refine ret2c (fn := Try.f55) rfl st17.defers e4 e5 r1 Try.isAgg25 Try.sizeOf25 rfl ?_
       have he_ : atomF sub cs d i = ((leafT 0 (⟨#[]⟩ : ByteArray) false 0 0 false), 10, (sub (d + 1) (((i + 1) + 1) + 1)).2.2) := by unfold atomF; (repeat (first | rw [if_neg (by first | assumption | (simp only [Bool.not_eq_true]; assumption) | (simp only [Bool.not_eq_false]; assumption) | (exact fun h_ => h_ (by assumption)) | omega)] | rw [if_pos (by first | assumption | omega)])); (try rfl)
       rw [he_]
       exact ⟨(leafT 0 (⟨#[]⟩ : ByteArray) false 0 0 false), rfl, st17.extIn, r0.foot, (leafTr _ _ _ _ _ _ _ _), rfl⟩
     try simp only [Bool.not_eq_true', Bool.not_eq_false'] at hc7
     have htk7 : tkF cs ((sub (d + 1) (((i + 1) + 1) + 1)).2.2) (⟨#[41]⟩ : ByteArray) = true := by simpa using hc7
     have htl7 := tk_lt htk7
     rw [tkN_t htk7] at r0
     refine wp_skip ?_
     show Code.wp _ _ _ a16 w16
     refine wp_seq ?_
     refine region_of_ops ?_
     refine ops_cut 2 (by kernel_rfl) ?_
     refine ops_St (bf := [0, 1]) (sp := [det _ 43 _, gzdet _ 44 (True) (fun b : Sv => b.v) (fun _ => True) (fun b : Sv => zSl TrE (Gn none' w) b.v [t1_])]) [ib r0, ib r1, ib r2, iz r3, ib r4, Ini.any _, Ini.any _, Ini.any _, Ini.any _, iz r9] st16 (by kernel_rfl) ⟨r0, r1, r2, r3, r4, trivial, trivial, trivial, trivial, r9, trivial⟩
      ⟨Ob.d fun c => r_loadN (vs := [(.int .i64 (t1_.k)), (.string (t1_.ch)), (.bool (t1_.ng)), t1_.rv.v, (.int .i64 (t1_.mn)), (.int .i64 (t1_.mx)), (.bool (t1_.lz)), t1_.kv.v]) rfl Try.isAgg25 Try.sizeOf25 ((c.p e7).trans r4.ptr) rfl (fun _ _ hj => (c.ib 4 rfl).cell hj),
      Ob.gzSl (E := TrE) (xs := [t1_]) (cells := #[(.int .i64 (t1_.k)), (.string (t1_.ch)), (.bool (t1_.ng)), t1_.rv.v, (.int .i64 (t1_.mn)), (.int .i64 (t1_.mx)), (.bool (t1_.lz)), t1_.kv.v]) st16 gd0 rfl Try.underlying23 Try.sizeOf25 Try.zeroValue25 (by decide) (by decide) rfl rfl fun c hpc => fill1 (c.n 0 rfl) (by kernel_rfl), trivial⟩ ?_
     intro a18 w18 τ18 st18 f18
     obtain ⟨e0, e4, e5, e6, -⟩ := f18.ks [(0, _), (4, _), (5, _), (6, _)] ⟨e0, e4, e5, e6, trivial⟩
     obtain ⟨kv2_, e44, -, hz18⟩ := f18.gzd 1 rfl trivial
     replace r0 := f18.ib 0 rfl
     replace r1 := f18.ib 1 rfl
     replace r2 := f18.ib 2 rfl
     replace r3 := f18.iz 3 rfl
     replace r9 := f18.iz 9 rfl
     have r4 : Fz (zSl TrE (Gn none' w) kv2_.v [t1_]) τ18 w18 := hz18
     clear f18
     refine only_mk ?_
     refine ops_St (bf := [0, 1]) (sp := [det _ 45 _, box _ _ 2 6 [(.int .i64 (6)), (.string ((⟨#[]⟩ : ByteArray))), (.bool (false)), (.slice none 0 0), (.int .i64 (0)), (.int .i64 (0)), (.bool (false)), kv2_.v]]) [ib r0, ib r1, ib r2, iz r3, iz r4, Ini.any _, Ini.any _, Ini.any _, Ini.any _, iz r9] st18 (by kernel_rfl) ⟨r0, r1, r2, r3, r4, trivial, trivial, trivial, trivial, r9, trivial⟩
      ⟨Ob.d fun c => r_fieldAddr rfl Try.underlying25 rfl rfl Try.sizeOf23 ((c.p e6).trans r2.ptr),
      Ob.storeBox (off := 7) (v := kv2_.v) rfl rfl rfl rfl Try.sizeOf23 (Nat.le_of_ble_eq_true rfl) (by simp [Value.cells, Value.oneCell', Sv.v]) rfl (fun _ _ _ _ c => ⟨c.bp 2 rfl e6, c.ad (c.n 0 rfl) e6 rfl, (c.p e44)⟩), trivial⟩ ?_
     intro a19 w19 τ19 st19 f19
     obtain ⟨e0, e4, e5, e6, -⟩ := f19.ks [(0, _), (4, _), (5, _), (6, _)] ⟨e0, e4, e5, e6, trivial⟩
     replace r0 := f19.ib 0 rfl
     replace r1 := f19.ib 1 rfl
     replace r2 : boxR 25 [(.int .i64 (6)), (.string ((⟨#[]⟩ : ByteArray))), (.bool (false)), (.slice none 0 0), (.int .i64 (0)), (.int .i64 (0)), (.bool (false)), kv2_.v] (τ19 2) b7x6 w19 := f19.rb 1 e6 rfl
     replace r3 := f19.iz 3 rfl
     replace r4 := f19.iz 4 rfl
     replace r9 := f19.iz 9 rfl
     clear f19
     show Code.wp _ _ _ a19 w19
     refine wp_seq ?_
     refine region_St (bf := [0, 1, 3]) (sp := [det _ 46 _, box _ _ 1 4 [(.int .i64 (6)), (.string ((⟨#[]⟩ : ByteArray))), (.bool (false)), (.slice none 0 0), (.int .i64 (0)), (.int .i64 (0)), (.bool (false)), kv2_.v], det _ 5 _]) [ib r0, ib r1, ib r2, iz r3, iz r4, Ini.any _, Ini.any _, Ini.any _, Ini.any _, iz r9] mixed st19 (by kernel_rfl) ⟨r0, r1, r2, r3, r4, trivial, trivial, trivial, trivial, r9, trivial⟩
      ⟨Ob.d fun c => r_loadN (vs := [(.int .i64 (6)), (.string ((⟨#[]⟩ : ByteArray))), (.bool (false)), (.slice none 0 0), (.int .i64 (0)), (.int .i64 (0)), (.bool (false)), kv2_.v]) rfl Try.isAgg25 Try.sizeOf25 ((c.p e6).trans r2.ptr) rfl (fun _ _ hj => (c.ib 2 rfl).cell hj),
      Ob.storeBox (off := 0) (v := (.agg #[(.int .i64 (6)), (.string ((⟨#[]⟩ : ByteArray))), (.bool (false)), (.slice none 0 0), (.int .i64 (0)), (.int .i64 (0)), (.bool (false)), kv2_.v])) rfl rfl rfl rfl Try.sizeOf25 (Nat.le_of_ble_eq_true rfl) (by simp [Value.cells, Value.oneCell', Sv.v]) rfl (fun _ _ _ _ c => ⟨c.bp 1 rfl e4, c.ad ((c.p e4).trans r1.ptr) e4 rfl, (c.n 0 rfl)⟩),
      Ob.d fun c => r_assign rfl rfl, trivial⟩ ?_
     intro a20 w20 τ20 st20 f20
     obtain ⟨e0, e4, -⟩ := f20.ks [(0, _), (4, _)] ⟨e0, e4, trivial⟩
     have e5 : get a20 5 = (.int .i64 (0)) := f20.v 2 rfl
     replace r0 := f20.ib 0 rfl
     replace r1 : boxR 25 [(.int .i64 (6)), (.string ((⟨#[]⟩ : ByteArray))), (.bool (false)), (.slice none 0 0), (.int .i64 (0)), (.int .i64 (0)), (.bool (false)), kv2_.v] (τ20 1) b1x4 w20 := f20.rb 1 e4 rfl
     replace r3 := f20.iz 3 rfl
     replace r4 := f20.iz 4 rfl
     replace r9 := f20.iz 9 rfl
     clear f20
     show Code.wp _ _ _ a20 w20
     refine wp_ret ?_
     repeat (first | with_reducible refine then_ret ?_ | with_reducible refine block_ret ?_)
     refine ret2c (fn := Try.f55) rfl st20.defers e4 e5 r1 Try.isAgg25 Try.sizeOf25 rfl ?_
     have he_ : atomF sub cs d i = ((nodeT 6 (⟨#[]⟩ : ByteArray) false 0 0 false Sv.nil [er t1_]), 0, ((sub (d + 1) (((i + 1) + 1) + 1)).2.2) + 1) := by rw [hqt1_]; unfold atomF; (repeat (first | rw [if_neg (by first | assumption | (simp only [Bool.not_eq_true]; assumption) | (simp only [Bool.not_eq_false]; assumption) | (exact fun h_ => h_ (by assumption)) | omega)] | rw [if_pos (by first | assumption | omega)])); (try rfl)
     rw [he_]
     exact ⟨(nodeT 6 (⟨#[]⟩ : ByteArray) false 0 0 false kv2_ [t1_]), rfl, st20.extIn, r0.foot, (Fz.out (nodeZ r4 (zcons r3 znil))), er_node _ _ _ _ _ _ _ _⟩
   skip
   have htk7 : tkF cs (i + 1) (⟨#[63]⟩ : ByteArray) = false := hc4
   rw [tkN_f htk7] at r0
   refine wp_skip ?_
   show Code.wp _ _ _ a8 w8
   refine wp_seq ?_
   refine region_of_ops ?_
   refine ops_cut 4 (by kernel_rfl) ?_
   refine ops_St (bf := [0, 0, 2, 7]) (sp := [det _ 29 _, det _ 30 _, det _ 31 _, zbox 58 _ 0 32 (v) (fun b : Tr => [cv.v, .int .i64 (((sub (d + 1) (i + 1)).2.2 : Nat) : Int)]) (fun b : Tr => .tuple #[b.v, .int .i64 (sub (d + 1) (i + 1)).2.1]) (fun b : Tr => er b = (sub (d + 1) (i + 1)).1) (fun b : Tr => zTr (Gn none' w) b)]) [ib r0, ib r1, ib r2, Ini.any _, Ini.any _, Ini.any _, Ini.any _, Ini.any _, Ini.any _, iz r9] st8 (by kernel_rfl) ⟨r0, r1, r2, trivial, trivial, trivial, trivial, trivial, trivial, r9, trivial⟩
    ⟨Ob.d fun c => r_move rfl (c.p e0),
    Ob.d fun c => r_move rfl (c.p e1),
    Ob.d fun c => r_add rfl (c.n 1 rfl) rfl (by first | omega | (have h_ := see_size_le hL i; omega)),
    Ob.zb (cells := fun b : Tr => [cv.v, .int .i64 (((sub (d + 1) (i + 1)).2.2 : Nat) : Int)]) (f := fun b : Tr => .tuple #[b.v, .int .i64 (sub (d + 1) (i + 1)).2.1]) (Ψ := fun b : Tr => er b = (sub (d + 1) (i + 1)).1) (Φ := fun b : Tr => zTr (Gn none' w) b) fun {_ a_ _ _} c => ⟨_, _, (e_call2 rfl rfl Try.call39 (c.n 0 rfl) (c.n 2 rfl)), (hsub (d + 1) (i + 1) _ (rdr (c.ib 0 rfl) (c.iz 9 rfl) (fun g_ h_ hz_ => hz_.2 _ h_)) (by first | omega | (have h_ := see_size_le hL i; omega)) (by first | omega | (have h_ := see_size_le hL i; omega)) (by first | omega | (have h_ := see_size_le hL i; omega))).mono (fun e w' ⟨b_, he_, hx_, hb_, ht_, hq_⟩ => ⟨b_, he_, (c.ib 0 rfl).ext hx_, hb_.back (c.ib 0 rfl), hq_, c.tns st8 hx_.size ht_⟩)⟩, trivial⟩ ?_
   intro a21 w21 τ21 st21 f21
   obtain ⟨e0, e4, e5, e6, -⟩ := f21.ks [(0, _), (4, _), (5, _), (6, _)] ⟨e0, e4, e5, e6, trivial⟩
   obtain ⟨t3_, e32, hro21, hqt3_, hz21⟩ := f21.zb 3 rfl
   have e32 : get a21 32 = (.tuple #[(.agg #[(.int .i64 (t3_.k)), (.string (t3_.ch)), (.bool (t3_.ng)), t3_.rv.v, (.int .i64 (t3_.mn)), (.int .i64 (t3_.mx)), (.bool (t3_.lz)), t3_.kv.v]), (.int .i64 ((sub (d + 1) (i + 1)).2.1))]) := e32
   replace r0 : boxR 58 [cv.v, (.int .i64 ((((sub (d + 1) (i + 1)).2.2 : Nat) : Int)))] (τ21 0) v w21 := hro21
   replace r1 := f21.ib 1 rfl
   replace r2 := f21.ib 2 rfl
   replace r9 := f21.iz 9 rfl
   have r3 : Fz (zTr (Gn none' w) t3_) τ21 w21 := hz21
   clear f21
   refine only_mk ?_
   refine ops_St (bf := [0, 1, 3, 7, 15, 31]) (sp := [det _ 28 _, det _ 33 _, det _ 34 _, box _ _ 4 7 [(.int .i64 (0)), (.string ((⟨#[]⟩ : ByteArray))), (.bool (false)), (.slice none 0 0), (.int .i64 (0)), (.int .i64 (0)), (.bool (false)), (.slice none 0 0)], box _ _ 4 7 [(.int .i64 (t3_.k)), (.string (t3_.ch)), (.bool (t3_.ng)), t3_.rv.v, (.int .i64 (t3_.mn)), (.int .i64 (t3_.mx)), (.bool (t3_.lz)), t3_.kv.v], det _ 8 _]) [ib r0, ib r1, ib r2, iz r3, Ini.any _, Ini.any _, Ini.any _, Ini.any _, Ini.any _, iz r9] st21 (by kernel_rfl) ⟨r0, r1, r2, r3, trivial, trivial, trivial, trivial, trivial, r9, trivial⟩
    ⟨Ob.d fun c => r_move rfl (c.p e32),
    Ob.d fun c => r_extract rfl (c.n 0 rfl) rfl,
    Ob.d fun c => r_extract rfl (c.n 0 rfl) rfl,
    Ob.alloc rfl rfl rfl rfl Try.zeroValue25 rfl,
    Ob.storeBox (off := 0) (v := (.agg #[(.int .i64 (t3_.k)), (.string (t3_.ch)), (.bool (t3_.ng)), t3_.rv.v, (.int .i64 (t3_.mn)), (.int .i64 (t3_.mx)), (.bool (t3_.lz)), t3_.kv.v])) rfl rfl rfl rfl Try.sizeOf25 (Nat.le_of_ble_eq_true rfl) (by simp [Value.cells, Value.oneCell', Sv.v]) rfl (fun _ _ _ _ c => ⟨c.rb 3 rfl, (c.rb 3 rfl).ptr, (c.n 1 rfl)⟩),
    Ob.d fun c => r_assign rfl (c.n 2 rfl), trivial⟩ ?_
   intro a22 w22 τ22 st22 f22
   obtain ⟨b22x7, e7⟩ : ∃ b, get a22 7 = b := ⟨_, rfl⟩
   obtain ⟨e0, e4, e5, e6, -⟩ := f22.ks [(0, _), (4, _), (5, _), (6, _)] ⟨e0, e4, e5, e6, trivial⟩
   have e8 : get a22 8 = (.int .i64 ((sub (d + 1) (i + 1)).2.1)) := f22.v 5 rfl
   replace r0 := f22.ib 0 rfl
   replace r1 := f22.ib 1 rfl
   replace r2 := f22.ib 2 rfl
   replace r3 := f22.iz 3 rfl
   have r4 : boxR 25 [(.int .i64 (t3_.k)), (.string (t3_.ch)), (.bool (t3_.ng)), t3_.rv.v, (.int .i64 (t3_.mn)), (.int .i64 (t3_.mx)), (.bool (t3_.lz)), t3_.kv.v] (τ22 4) b22x7 w22 := f22.rb 4 e7 rfl
   replace r9 := f22.iz 9 rfl
   clear f22
   show Code.wp _ _ _ a22 w22
   refine wp_seq ?_
   refine wp_seq ?_
   refine region_St (bf := [0, 1]) (sp := [det _ 35 _, det _ 36 _]) [ib r0, ib r1, ib r2, iz r3, ib r4, Ini.any _, Ini.any _, Ini.any _, Ini.any _, iz r9] mixed st22 (by kernel_rfl) ⟨r0, r1, r2, r3, r4, trivial, trivial, trivial, trivial, r9, trivial⟩
    ⟨Ob.d fun c => r_move rfl (c.p e8),
    Ob.d fun c => r_neq rfl (c.n 0 rfl) rfl, trivial⟩ ?_
   intro a23 w23 τ23 st23 f23
   obtain ⟨e0, e4, e5, e6, e7, e8, -⟩ := f23.ks [(0, _), (4, _), (5, _), (6, _), (7, _), (8, _)] ⟨e0, e4, e5, e6, e7, e8, trivial⟩
   have e36 : get a23 36 = (.bool (!decide ((sub (d + 1) (i + 1)).2.1 = 0))) := f23.v 1 rfl
   replace r0 := f23.ib 0 rfl
   replace r1 := f23.ib 1 rfl
   replace r2 := f23.ib 2 rfl
   replace r3 := f23.iz 3 rfl
   replace r4 := f23.ib 4 rfl
   replace r9 := f23.iz 9 rfl
   clear f23
   show Code.wp _ _ _ a23 w23
   refine wp_cond_split (t := !decide ((sub (d + 1) (i + 1)).2.1 = 0)) e36 (fun hc8 => ?_) (fun hc8 => ?_)
   · try simp only [Bool.not_eq_true', Bool.not_eq_false', decide_eq_true_eq, decide_eq_false_iff_not] at hc8
     refine wp_seq ?_
     refine region_St (bf := [0, 0, 1, 7]) (sp := [det _ 37 _, det _ 38 _, box _ _ 1 4 [(.int .i64 (0)), (.string ((⟨#[]⟩ : ByteArray))), (.bool (false)), (.slice none 0 0), (.int .i64 (0)), (.int .i64 (0)), (.bool (false)), (.slice none 0 0)], det _ 5 _]) [ib r0, ib r1, ib r2, iz r3, ib r4, Ini.any _, Ini.any _, Ini.any _, Ini.any _, iz r9] mixed st23 (by kernel_rfl) ⟨r0, r1, r2, r3, r4, trivial, trivial, trivial, trivial, r9, trivial⟩
      ⟨Ob.d fun c => r_build (cells := #[(.int .i64 (0)), (.string ((⟨#[]⟩ : ByteArray))), (.bool (false)), (.slice none 0 0), (.int .i64 (0)), (.int .i64 (0)), (.bool (false)), (.slice none 0 0)]) rfl Try.underlying25 Try.zeroValue25 (pl := #[(0, 1), (1, 1), (2, 1), (3, 1), (4, 1), (5, 1), (6, 1), (7, 1)]) (fun w_ => by simp [Try.sizeOf22, Try.sizeOf23, Try.sizeOf3, Try.sizeOf4, Try.sizeOf9]) (by simp only [List.map_toArray, List.map_nil]; rfl),
      Ob.d fun c => r_move rfl (c.p e8),
      Ob.storeBox (off := 0) (v := (.agg #[(.int .i64 (0)), (.string ((⟨#[]⟩ : ByteArray))), (.bool (false)), (.slice none 0 0), (.int .i64 (0)), (.int .i64 (0)), (.bool (false)), (.slice none 0 0)])) rfl rfl rfl rfl Try.sizeOf25 (Nat.le_of_ble_eq_true rfl) (by simp [Value.cells, Value.oneCell', Sv.v]) rfl (fun _ _ _ _ c => ⟨c.bp 1 rfl e4, c.ad ((c.p e4).trans r1.ptr) e4 rfl, (c.n 0 rfl)⟩),
      Ob.d fun c => r_assign rfl (c.n 1 rfl), trivial⟩ ?_
     intro a24 w24 τ24 st24 f24
     obtain ⟨e0, e4, e6, e7, -⟩ := f24.ks [(0, _), (4, _), (6, _), (7, _)] ⟨e0, e4, e6, e7, trivial⟩
     have e5 : get a24 5 = (.int .i64 ((sub (d + 1) (i + 1)).2.1)) := f24.v 3 rfl
     replace r0 := f24.ib 0 rfl
     replace r1 : boxR 25 [(.int .i64 (0)), (.string ((⟨#[]⟩ : ByteArray))), (.bool (false)), (.slice none 0 0), (.int .i64 (0)), (.int .i64 (0)), (.bool (false)), (.slice none 0 0)] (τ24 1) b1x4 w24 := f24.rb 2 e4 rfl
     replace r2 := f24.ib 2 rfl
     replace r3 := f24.iz 3 rfl
     replace r4 := f24.ib 4 rfl
     replace r9 := f24.iz 9 rfl
     clear f24
     show Code.wp _ _ _ a24 w24
     refine wp_ret ?_
     repeat (first | with_reducible refine then_ret ?_ | with_reducible refine block_ret ?_)
     refine ret2c (fn := Try.f55) rfl st24.defers e4 e5 r1 Try.isAgg25 Try.sizeOf25 rfl ?_
     have he_ : atomF sub cs d i = ((leafT 0 (⟨#[]⟩ : ByteArray) false 0 0 false), (sub (d + 1) (i + 1)).2.1, (sub (d + 1) (i + 1)).2.2) := by unfold atomF; (repeat (first | rw [if_neg (by first | assumption | (simp only [Bool.not_eq_true]; assumption) | (simp only [Bool.not_eq_false]; assumption) | (exact fun h_ => h_ (by assumption)) | omega)] | rw [if_pos (by first | assumption | omega)])); (try rfl)
     rw [he_]
     exact ⟨(leafT 0 (⟨#[]⟩ : ByteArray) false 0 0 false), rfl, st24.extIn, r0.foot, (leafTr _ _ _ _ _ _ _ _), rfl⟩
   try simp only [Bool.not_eq_true', Bool.not_eq_false', decide_eq_true_eq, decide_eq_false_iff_not] at hc8
   refine wp_skip ?_
   show Code.wp _ _ _ a23 w23
   refine wp_seq ?_
   refine wp_seq ?_
   have hsb_ := hsb (d + 1) (i + 1) (by omega)
   refine region_St (bf := [0, 1, 3]) (sp := [det _ 39 _, dbox 58 _ 0 40 v [cv.v, (.int .i64 (((tkN cs ((sub (d + 1) (i + 1)).2.2) (⟨#[41]⟩ : ByteArray) : Nat) : Int)))] (.bool (tkF cs ((sub (d + 1) (i + 1)).2.2) (⟨#[41]⟩ : ByteArray))), det _ 41 _]) [ib r0, ib r1, ib r2, iz r3, ib r4, Ini.any _, Ini.any _, Ini.any _, Ini.any _, iz r9] mixed st23 (by kernel_rfl) ⟨r0, r1, r2, r3, r4, trivial, trivial, trivial, trivial, r9, trivial⟩
    ⟨Ob.d fun c => r_move rfl (c.p e0),
    Ob.db fun {_ a_ _ _} c => ⟨_, _, (e_call2 rfl rfl Try.call49 (c.n 0 rfl) rfl), db_of (c.ib 0 rfl) (take_c v cv cs ((sub (d + 1) (i + 1)).2.2) (⟨#[41]⟩ : ByteArray) _ (rdr (c.ib 0 rfl) (c.iz 9 rfl) (fun g_ h_ hz_ => hz_.2 _ h_)) hL (by first | omega | (have h_ := see_size_le hL i; omega)))⟩,
    Ob.d fun c => r_not rfl (c.dv 1 rfl), trivial⟩ ?_
   intro a25 w25 τ25 st25 f25
   obtain ⟨e0, e4, e5, e6, e7, -⟩ := f25.ks [(0, _), (4, _), (5, _), (6, _), (7, _)] ⟨e0, e4, e5, e6, e7, trivial⟩
   have e41 : get a25 41 = (.bool (!(tkF cs ((sub (d + 1) (i + 1)).2.2) (⟨#[41]⟩ : ByteArray)))) := f25.v 2 rfl
   replace r0 : boxR 58 [cv.v, (.int .i64 (((tkN cs ((sub (d + 1) (i + 1)).2.2) (⟨#[41]⟩ : ByteArray) : Nat) : Int)))] (τ25 0) v w25 := f25.db 1 rfl
   replace r1 := f25.ib 1 rfl
   replace r2 := f25.ib 2 rfl
   replace r3 := f25.iz 3 rfl
   replace r4 := f25.ib 4 rfl
   replace r9 := f25.iz 9 rfl
   clear f25
   show Code.wp _ _ _ a25 w25
   refine wp_cond_split (t := !(tkF cs ((sub (d + 1) (i + 1)).2.2) (⟨#[41]⟩ : ByteArray))) e41 (fun hc9 => ?_) (fun hc9 => ?_)
   · try simp only [Bool.not_eq_true', Bool.not_eq_false'] at hc9
     have htk9 : tkF cs ((sub (d + 1) (i + 1)).2.2) (⟨#[41]⟩ : ByteArray) = false := by simpa using hc9
     rw [tkN_f htk9] at r0
     refine wp_seq ?_
     refine region_St (bf := [0, 1, 3]) (sp := [det _ 42 _, box _ _ 1 4 [(.int .i64 (0)), (.string ((⟨#[]⟩ : ByteArray))), (.bool (false)), (.slice none 0 0), (.int .i64 (0)), (.int .i64 (0)), (.bool (false)), (.slice none 0 0)], det _ 5 _]) [ib r0, ib r1, ib r2, iz r3, ib r4, Ini.any _, Ini.any _, Ini.any _, Ini.any _, iz r9] mixed st25 (by kernel_rfl) ⟨r0, r1, r2, r3, r4, trivial, trivial, trivial, trivial, r9, trivial⟩
      ⟨Ob.d fun c => r_build (cells := #[(.int .i64 (0)), (.string ((⟨#[]⟩ : ByteArray))), (.bool (false)), (.slice none 0 0), (.int .i64 (0)), (.int .i64 (0)), (.bool (false)), (.slice none 0 0)]) rfl Try.underlying25 Try.zeroValue25 (pl := #[(0, 1), (1, 1), (2, 1), (3, 1), (4, 1), (5, 1), (6, 1), (7, 1)]) (fun w_ => by simp [Try.sizeOf22, Try.sizeOf23, Try.sizeOf3, Try.sizeOf4, Try.sizeOf9]) (by simp only [List.map_toArray, List.map_nil]; rfl),
      Ob.storeBox (off := 0) (v := (.agg #[(.int .i64 (0)), (.string ((⟨#[]⟩ : ByteArray))), (.bool (false)), (.slice none 0 0), (.int .i64 (0)), (.int .i64 (0)), (.bool (false)), (.slice none 0 0)])) rfl rfl rfl rfl Try.sizeOf25 (Nat.le_of_ble_eq_true rfl) (by simp [Value.cells, Value.oneCell', Sv.v]) rfl (fun _ _ _ _ c => ⟨c.bp 1 rfl e4, c.ad ((c.p e4).trans r1.ptr) e4 rfl, (c.n 0 rfl)⟩),
      Ob.d fun c => r_assign rfl rfl, trivial⟩ ?_
     intro a26 w26 τ26 st26 f26
     obtain ⟨e0, e4, e6, e7, -⟩ := f26.ks [(0, _), (4, _), (6, _), (7, _)] ⟨e0, e4, e6, e7, trivial⟩
     have e5 : get a26 5 = (.int .i64 (10)) := f26.v 2 rfl
     replace r0 := f26.ib 0 rfl
     replace r1 : boxR 25 [(.int .i64 (0)), (.string ((⟨#[]⟩ : ByteArray))), (.bool (false)), (.slice none 0 0), (.int .i64 (0)), (.int .i64 (0)), (.bool (false)), (.slice none 0 0)] (τ26 1) b1x4 w26 := f26.rb 1 e4 rfl
     replace r2 := f26.ib 2 rfl
     replace r3 := f26.iz 3 rfl
     replace r4 := f26.ib 4 rfl
     replace r9 := f26.iz 9 rfl
     clear f26
     show Code.wp _ _ _ a26 w26
     refine wp_ret ?_
     repeat (first | with_reducible refine then_ret ?_ | with_reducible refine block_ret ?_)
     refine ret2c (fn := Try.f55) rfl st26.defers e4 e5 r1 Try.isAgg25 Try.sizeOf25 rfl ?_
     have he_ : atomF sub cs d i = ((leafT 0 (⟨#[]⟩ : ByteArray) false 0 0 false), 10, (sub (d + 1) (i + 1)).2.2) := by unfold atomF; (repeat (first | rw [if_neg (by first | assumption | (simp only [Bool.not_eq_true]; assumption) | (simp only [Bool.not_eq_false]; assumption) | (exact fun h_ => h_ (by assumption)) | omega)] | rw [if_pos (by first | assumption | omega)])); (try rfl)
     rw [he_]
     exact ⟨(leafT 0 (⟨#[]⟩ : ByteArray) false 0 0 false), rfl, st26.extIn, r0.foot, (leafTr _ _ _ _ _ _ _ _), rfl⟩
   try simp only [Bool.not_eq_true', Bool.not_eq_false'] at hc9
   have htk9 : tkF cs ((sub (d + 1) (i + 1)).2.2) (⟨#[41]⟩ : ByteArray) = true := by simpa using hc9
   have htl9 := tk_lt htk9
   rw [tkN_t htk9] at r0
   refine wp_skip ?_
   show Code.wp _ _ _ a25 w25
   refine wp_seq ?_
   refine region_of_ops ?_
   refine ops_cut 2 (by kernel_rfl) ?_
   refine ops_St (bf := [0, 1]) (sp := [det _ 43 _, gzdet _ 44 (True) (fun b : Sv => b.v) (fun _ => True) (fun b : Sv => zSl TrE (Gn none' w) b.v [t3_])]) [ib r0, ib r1, ib r2, iz r3, ib r4, Ini.any _, Ini.any _, Ini.any _, Ini.any _, iz r9] st25 (by kernel_rfl) ⟨r0, r1, r2, r3, r4, trivial, trivial, trivial, trivial, r9, trivial⟩
    ⟨Ob.d fun c => r_loadN (vs := [(.int .i64 (t3_.k)), (.string (t3_.ch)), (.bool (t3_.ng)), t3_.rv.v, (.int .i64 (t3_.mn)), (.int .i64 (t3_.mx)), (.bool (t3_.lz)), t3_.kv.v]) rfl Try.isAgg25 Try.sizeOf25 ((c.p e7).trans r4.ptr) rfl (fun _ _ hj => (c.ib 4 rfl).cell hj),
    Ob.gzSl (E := TrE) (xs := [t3_]) (cells := #[(.int .i64 (t3_.k)), (.string (t3_.ch)), (.bool (t3_.ng)), t3_.rv.v, (.int .i64 (t3_.mn)), (.int .i64 (t3_.mx)), (.bool (t3_.lz)), t3_.kv.v]) st25 gd0 rfl Try.underlying23 Try.sizeOf25 Try.zeroValue25 (by decide) (by decide) rfl rfl fun c hpc => fill1 (c.n 0 rfl) (by kernel_rfl), trivial⟩ ?_
   intro a27 w27 τ27 st27 f27
   obtain ⟨e0, e4, e5, e6, -⟩ := f27.ks [(0, _), (4, _), (5, _), (6, _)] ⟨e0, e4, e5, e6, trivial⟩
   obtain ⟨kv4_, e44, -, hz27⟩ := f27.gzd 1 rfl trivial
   replace r0 := f27.ib 0 rfl
   replace r1 := f27.ib 1 rfl
   replace r2 := f27.ib 2 rfl
   replace r3 := f27.iz 3 rfl
   replace r9 := f27.iz 9 rfl
   have r4 : Fz (zSl TrE (Gn none' w) kv4_.v [t3_]) τ27 w27 := hz27
   clear f27
   refine only_mk ?_
   refine ops_St (bf := [0, 1]) (sp := [det _ 45 _, box _ _ 2 6 [(.int .i64 (5)), (.string ((⟨#[]⟩ : ByteArray))), (.bool (false)), (.slice none 0 0), (.int .i64 (0)), (.int .i64 (0)), (.bool (false)), kv4_.v]]) [ib r0, ib r1, ib r2, iz r3, iz r4, Ini.any _, Ini.any _, Ini.any _, Ini.any _, iz r9] st27 (by kernel_rfl) ⟨r0, r1, r2, r3, r4, trivial, trivial, trivial, trivial, r9, trivial⟩
    ⟨Ob.d fun c => r_fieldAddr rfl Try.underlying25 rfl rfl Try.sizeOf23 ((c.p e6).trans r2.ptr),
    Ob.storeBox (off := 7) (v := kv4_.v) rfl rfl rfl rfl Try.sizeOf23 (Nat.le_of_ble_eq_true rfl) (by simp [Value.cells, Value.oneCell', Sv.v]) rfl (fun _ _ _ _ c => ⟨c.bp 2 rfl e6, c.ad (c.n 0 rfl) e6 rfl, (c.p e44)⟩), trivial⟩ ?_
   intro a28 w28 τ28 st28 f28
   obtain ⟨e0, e4, e5, e6, -⟩ := f28.ks [(0, _), (4, _), (5, _), (6, _)] ⟨e0, e4, e5, e6, trivial⟩
   replace r0 := f28.ib 0 rfl
   replace r1 := f28.ib 1 rfl
   replace r2 : boxR 25 [(.int .i64 (5)), (.string ((⟨#[]⟩ : ByteArray))), (.bool (false)), (.slice none 0 0), (.int .i64 (0)), (.int .i64 (0)), (.bool (false)), kv4_.v] (τ28 2) b7x6 w28 := f28.rb 1 e6 rfl
   replace r3 := f28.iz 3 rfl
   replace r4 := f28.iz 4 rfl
   replace r9 := f28.iz 9 rfl
   clear f28
   show Code.wp _ _ _ a28 w28
   refine wp_seq ?_
   refine region_St (bf := [0, 1, 3]) (sp := [det _ 46 _, box _ _ 1 4 [(.int .i64 (5)), (.string ((⟨#[]⟩ : ByteArray))), (.bool (false)), (.slice none 0 0), (.int .i64 (0)), (.int .i64 (0)), (.bool (false)), kv4_.v], det _ 5 _]) [ib r0, ib r1, ib r2, iz r3, iz r4, Ini.any _, Ini.any _, Ini.any _, Ini.any _, iz r9] mixed st28 (by kernel_rfl) ⟨r0, r1, r2, r3, r4, trivial, trivial, trivial, trivial, r9, trivial⟩
    ⟨Ob.d fun c => r_loadN (vs := [(.int .i64 (5)), (.string ((⟨#[]⟩ : ByteArray))), (.bool (false)), (.slice none 0 0), (.int .i64 (0)), (.int .i64 (0)), (.bool (false)), kv4_.v]) rfl Try.isAgg25 Try.sizeOf25 ((c.p e6).trans r2.ptr) rfl (fun _ _ hj => (c.ib 2 rfl).cell hj),
    Ob.storeBox (off := 0) (v := (.agg #[(.int .i64 (5)), (.string ((⟨#[]⟩ : ByteArray))), (.bool (false)), (.slice none 0 0), (.int .i64 (0)), (.int .i64 (0)), (.bool (false)), kv4_.v])) rfl rfl rfl rfl Try.sizeOf25 (Nat.le_of_ble_eq_true rfl) (by simp [Value.cells, Value.oneCell', Sv.v]) rfl (fun _ _ _ _ c => ⟨c.bp 1 rfl e4, c.ad ((c.p e4).trans r1.ptr) e4 rfl, (c.n 0 rfl)⟩),
    Ob.d fun c => r_assign rfl rfl, trivial⟩ ?_
   intro a29 w29 τ29 st29 f29
   obtain ⟨e0, e4, -⟩ := f29.ks [(0, _), (4, _)] ⟨e0, e4, trivial⟩
   have e5 : get a29 5 = (.int .i64 (0)) := f29.v 2 rfl
   replace r0 := f29.ib 0 rfl
   replace r1 : boxR 25 [(.int .i64 (5)), (.string ((⟨#[]⟩ : ByteArray))), (.bool (false)), (.slice none 0 0), (.int .i64 (0)), (.int .i64 (0)), (.bool (false)), kv4_.v] (τ29 1) b1x4 w29 := f29.rb 1 e4 rfl
   replace r3 := f29.iz 3 rfl
   replace r4 := f29.iz 4 rfl
   replace r9 := f29.iz 9 rfl
   clear f29
   show Code.wp _ _ _ a29 w29
   refine wp_ret ?_
   repeat (first | with_reducible refine then_ret ?_ | with_reducible refine block_ret ?_)
   refine ret2c (fn := Try.f55) rfl st29.defers e4 e5 r1 Try.isAgg25 Try.sizeOf25 rfl ?_
   have he_ : atomF sub cs d i = ((nodeT 5 (⟨#[]⟩ : ByteArray) false 0 0 false Sv.nil [er t3_]), 0, ((sub (d + 1) (i + 1)).2.2) + 1) := by rw [hqt3_]; unfold atomF; (repeat (first | rw [if_neg (by first | assumption | (simp only [Bool.not_eq_true]; assumption) | (simp only [Bool.not_eq_false]; assumption) | (exact fun h_ => h_ (by assumption)) | omega)] | rw [if_pos (by first | assumption | omega)])); (try rfl)
   rw [he_]
   exact ⟨(nodeT 5 (⟨#[]⟩ : ByteArray) false 0 0 false kv4_ [t3_]), rfl, st29.extIn, r0.foot, (Fz.out (nodeZ r4 (zcons r3 znil))), er_node _ _ _ _ _ _ _ _⟩
 skip
 have htk9 : tkF cs i (⟨#[40]⟩ : ByteArray) = false := hc2
 rw [tkN_f htk9] at r0
 refine wp_seq ?_
 refine region_St (bf := [0, 1, 3]) (sp := [det _ 48 _, dbox 58 _ 0 49 v [cv.v, (.int .i64 (((tkN cs i (⟨#[91]⟩ : ByteArray) : Nat) : Int)))] (.bool (tkF cs i (⟨#[91]⟩ : ByteArray))), det _ 47 _]) [ib r0, ib r1, Ini.any _, Ini.any _, Ini.any _, Ini.any _, Ini.any _, Ini.any _, Ini.any _, iz r9] mixed st4 (by kernel_rfl) ⟨r0, r1, trivial, trivial, trivial, trivial, trivial, trivial, trivial, r9, trivial⟩
  ⟨Ob.d fun c => r_move rfl (c.p e0),
  Ob.db fun {_ a_ _ _} c => ⟨_, _, (e_call2 rfl rfl Try.call49 (c.n 0 rfl) rfl), db_of (c.ib 0 rfl) (take_c v cv cs i (⟨#[91]⟩ : ByteArray) _ (rdr (c.ib 0 rfl) (c.iz 9 rfl) (fun g_ h_ hz_ => hz_.2 _ h_)) hL (by first | omega | (have h_ := see_size_le hL i; omega)))⟩,
  Ob.d fun c => r_assign rfl (c.dv 1 rfl), trivial⟩ ?_
 intro a30 w30 τ30 st30 f30
 obtain ⟨e0, e4, e5, -⟩ := f30.ks [(0, _), (4, _), (5, _)] ⟨e0, e4, e5, trivial⟩
 have e47 : get a30 47 = (.bool (tkF cs i (⟨#[91]⟩ : ByteArray))) := f30.v 2 rfl
 replace r0 : boxR 58 [cv.v, (.int .i64 (((tkN cs i (⟨#[91]⟩ : ByteArray) : Nat) : Int)))] (τ30 0) v w30 := f30.db 1 rfl
 replace r1 := f30.ib 1 rfl
 replace r9 := f30.iz 9 rfl
 clear f30
 show Code.wp _ _ _ a30 w30
 refine wp_cond_split (t := tkF cs i (⟨#[91]⟩ : ByteArray)) e47 (fun hc10 => ?_) (fun hc10 => ?_)
 · skip
   have htk10 : tkF cs i (⟨#[91]⟩ : ByteArray) = true := hc10
   have htl10 := tk_lt htk10
   rw [tkN_t htk10] at r0
   refine wp_seq ?_
   refine region_of_ops ?_
   refine ops_cut 2 (by kernel_rfl) ?_
   refine ops_St (bf := [0, 1]) (sp := [det _ 50 _, zbox 58 _ 0 51 (v) (fun b : Tr => [cv.v, .int .i64 (((clsF cs (i + 1)).2.2 : Nat) : Int)]) (fun b : Tr => .tuple #[b.v, .int .i64 (clsF cs (i + 1)).2.1]) (fun b : Tr => er b = (clsF cs (i + 1)).1) (fun b : Tr => zTr (Gn none' w) b)]) [ib r0, ib r1, Ini.any _, Ini.any _, Ini.any _, Ini.any _, Ini.any _, Ini.any _, Ini.any _, iz r9] st30 (by kernel_rfl) ⟨r0, r1, trivial, trivial, trivial, trivial, trivial, trivial, trivial, r9, trivial⟩
    ⟨Ob.d fun c => r_move rfl (c.p e0),
    Ob.zb (cells := fun b : Tr => [cv.v, .int .i64 (((clsF cs (i + 1)).2.2 : Nat) : Int)]) (f := fun b : Tr => .tuple #[b.v, .int .i64 (clsF cs (i + 1)).2.1]) (Ψ := fun b : Tr => er b = (clsF cs (i + 1)).1) (Φ := fun b : Tr => zTr (Gn none' w) b) fun {_ a_ _ _} c => ⟨_, _, (e_call1 rfl rfl Try.call63 (c.n 0 rfl)), (class_c v cv cs (i + 1) _ (rdr (c.ib 0 rfl) (c.iz 9 rfl) (fun g_ h_ hz_ => hz_.2 _ h_)) hL (by first | omega | (have h_ := see_size_le hL i; omega))).mono (fun e w' ⟨b_, he_, hx_, hb_, ht_, hq_⟩ => ⟨b_, he_, (c.ib 0 rfl).ext hx_, hb_.back (c.ib 0 rfl), hq_, c.tns st30 hx_.size ht_⟩)⟩, trivial⟩ ?_
   intro a31 w31 τ31 st31 f31
   obtain ⟨e0, e4, e5, -⟩ := f31.ks [(0, _), (4, _), (5, _)] ⟨e0, e4, e5, trivial⟩
   obtain ⟨t5_, e51, hro31, hqt5_, hz31⟩ := f31.zb 1 rfl
   have e51 : get a31 51 = (.tuple #[(.agg #[(.int .i64 (t5_.k)), (.string (t5_.ch)), (.bool (t5_.ng)), t5_.rv.v, (.int .i64 (t5_.mn)), (.int .i64 (t5_.mx)), (.bool (t5_.lz)), t5_.kv.v]), (.int .i64 ((clsF cs (i + 1)).2.1))]) := e51
   replace r0 : boxR 58 [cv.v, (.int .i64 ((((clsF cs (i + 1)).2.2 : Nat) : Int)))] (τ31 0) v w31 := hro31
   replace r1 := f31.ib 1 rfl
   replace r9 := f31.iz 9 rfl
   have r2 : Fz (zTr (Gn none' w) t5_) τ31 w31 := hz31
   clear f31
   refine only_mk ?_
   refine ops_St (bf := [0, 1, 3, 7]) (sp := [det _ 52 _, det _ 53 _, box _ _ 1 4 [(.int .i64 (t5_.k)), (.string (t5_.ch)), (.bool (t5_.ng)), t5_.rv.v, (.int .i64 (t5_.mn)), (.int .i64 (t5_.mx)), (.bool (t5_.lz)), t5_.kv.v], det _ 5 _]) [ib r0, ib r1, iz r2, Ini.any _, Ini.any _, Ini.any _, Ini.any _, Ini.any _, Ini.any _, iz r9] st31 (by kernel_rfl) ⟨r0, r1, r2, trivial, trivial, trivial, trivial, trivial, trivial, r9, trivial⟩
    ⟨Ob.d fun c => r_extract rfl (c.p e51) rfl,
    Ob.d fun c => r_extract rfl (c.p e51) rfl,
    Ob.storeBox (off := 0) (v := (.agg #[(.int .i64 (t5_.k)), (.string (t5_.ch)), (.bool (t5_.ng)), t5_.rv.v, (.int .i64 (t5_.mn)), (.int .i64 (t5_.mx)), (.bool (t5_.lz)), t5_.kv.v])) rfl rfl rfl rfl Try.sizeOf25 (Nat.le_of_ble_eq_true rfl) (by simp [Value.cells, Value.oneCell', Sv.v]) rfl (fun _ _ _ _ c => ⟨c.bp 1 rfl e4, c.ad ((c.p e4).trans r1.ptr) e4 rfl, (c.n 0 rfl)⟩),
    Ob.d fun c => r_assign rfl (c.n 1 rfl), trivial⟩ ?_
   intro a32 w32 τ32 st32 f32
   obtain ⟨e0, e4, -⟩ := f32.ks [(0, _), (4, _)] ⟨e0, e4, trivial⟩
   have e5 : get a32 5 = (.int .i64 ((clsF cs (i + 1)).2.1)) := f32.v 3 rfl
   replace r0 := f32.ib 0 rfl
   replace r1 : boxR 25 [(.int .i64 (t5_.k)), (.string (t5_.ch)), (.bool (t5_.ng)), t5_.rv.v, (.int .i64 (t5_.mn)), (.int .i64 (t5_.mx)), (.bool (t5_.lz)), t5_.kv.v] (τ32 1) b1x4 w32 := f32.rb 2 e4 rfl
   replace r2 := f32.iz 2 rfl
   replace r9 := f32.iz 9 rfl
   clear f32
   show Code.wp _ _ _ a32 w32
   refine wp_ret ?_
   repeat (first | with_reducible refine then_ret ?_ | with_reducible refine block_ret ?_)
   refine ret2c (fn := Try.f55) rfl st32.defers e4 e5 r1 Try.isAgg25 Try.sizeOf25 rfl ?_
   have he_ : atomF sub cs d i = ((er t5_), (clsF cs (i + 1)).2.1, (clsF cs (i + 1)).2.2) := by rw [hqt5_]; unfold atomF; (repeat (first | rw [if_neg (by first | assumption | (simp only [Bool.not_eq_true]; assumption) | (simp only [Bool.not_eq_false]; assumption) | (exact fun h_ => h_ (by assumption)) | omega)] | rw [if_pos (by first | assumption | omega)])); (try rfl)
   rw [he_]
   exact ⟨t5_, rfl, st32.extIn, r0.foot, r2.out, rfl⟩
 skip
 have htk10 : tkF cs i (⟨#[91]⟩ : ByteArray) = false := hc10
 rw [tkN_f htk10] at r0
 refine wp_seq ?_
 refine region_St (bf := [0, 1, 3]) (sp := [det _ 55 _, dbox 58 _ 0 56 v [cv.v, (.int .i64 (((tkN cs i (⟨#[92]⟩ : ByteArray) : Nat) : Int)))] (.bool (tkF cs i (⟨#[92]⟩ : ByteArray))), det _ 54 _]) [ib r0, ib r1, Ini.any _, Ini.any _, Ini.any _, Ini.any _, Ini.any _, Ini.any _, Ini.any _, iz r9] mixed st30 (by kernel_rfl) ⟨r0, r1, trivial, trivial, trivial, trivial, trivial, trivial, trivial, r9, trivial⟩
  ⟨Ob.d fun c => r_move rfl (c.p e0),
  Ob.db fun {_ a_ _ _} c => ⟨_, _, (e_call2 rfl rfl Try.call49 (c.n 0 rfl) rfl), db_of (c.ib 0 rfl) (take_c v cv cs i (⟨#[92]⟩ : ByteArray) _ (rdr (c.ib 0 rfl) (c.iz 9 rfl) (fun g_ h_ hz_ => hz_.2 _ h_)) hL (by first | omega | (have h_ := see_size_le hL i; omega)))⟩,
  Ob.d fun c => r_assign rfl (c.dv 1 rfl), trivial⟩ ?_
 intro a33 w33 τ33 st33 f33
 obtain ⟨e0, e4, e5, -⟩ := f33.ks [(0, _), (4, _), (5, _)] ⟨e0, e4, e5, trivial⟩
 have e54 : get a33 54 = (.bool (tkF cs i (⟨#[92]⟩ : ByteArray))) := f33.v 2 rfl
 replace r0 : boxR 58 [cv.v, (.int .i64 (((tkN cs i (⟨#[92]⟩ : ByteArray) : Nat) : Int)))] (τ33 0) v w33 := f33.db 1 rfl
 replace r1 := f33.ib 1 rfl
 replace r9 := f33.iz 9 rfl
 clear f33
 show Code.wp _ _ _ a33 w33
 refine wp_cond_split (t := tkF cs i (⟨#[92]⟩ : ByteArray)) e54 (fun hc11 => ?_) (fun hc11 => ?_)
 · skip
   have htk11 : tkF cs i (⟨#[92]⟩ : ByteArray) = true := hc11
   have htl11 := tk_lt htk11
   rw [tkN_t htk11] at r0
   refine wp_seq ?_
   refine region_of_ops ?_
   refine ops_cut 2 (by kernel_rfl) ?_
   refine ops_St (bf := [0, 1]) (sp := [det _ 57 _, zbox 58 _ 0 58 (v) (fun b : Tr => [cv.v, .int .i64 (((backF cs (i + 1)).2.2 : Nat) : Int)]) (fun b : Tr => .tuple #[b.v, .int .i64 (backF cs (i + 1)).2.1]) (fun b : Tr => er b = (backF cs (i + 1)).1) (fun b : Tr => zTr (Gn none' w) b)]) [ib r0, ib r1, Ini.any _, Ini.any _, Ini.any _, Ini.any _, Ini.any _, Ini.any _, Ini.any _, iz r9] st33 (by kernel_rfl) ⟨r0, r1, trivial, trivial, trivial, trivial, trivial, trivial, trivial, r9, trivial⟩
    ⟨Ob.d fun c => r_move rfl (c.p e0),
    Ob.zb (cells := fun b : Tr => [cv.v, .int .i64 (((backF cs (i + 1)).2.2 : Nat) : Int)]) (f := fun b : Tr => .tuple #[b.v, .int .i64 (backF cs (i + 1)).2.1]) (Ψ := fun b : Tr => er b = (backF cs (i + 1)).1) (Φ := fun b : Tr => zTr (Gn none' w) b) fun {_ a_ _ _} c => ⟨_, _, (e_call1 rfl rfl Try.call64 (c.n 0 rfl)), (back_c v cv cs (i + 1) _ (rdr (c.ib 0 rfl) (c.iz 9 rfl) (fun g_ h_ hz_ => hz_.2 _ h_)) hL (by first | omega | (have h_ := see_size_le hL i; omega))).mono (fun e w' ⟨b_, he_, hx_, hb_, ht_, hq_⟩ => ⟨b_, he_, (c.ib 0 rfl).ext hx_, hb_.back (c.ib 0 rfl), hq_, c.tns st33 hx_.size ht_⟩)⟩, trivial⟩ ?_
   intro a34 w34 τ34 st34 f34
   obtain ⟨e0, e4, e5, -⟩ := f34.ks [(0, _), (4, _), (5, _)] ⟨e0, e4, e5, trivial⟩
   obtain ⟨t6_, e58, hro34, hqt6_, hz34⟩ := f34.zb 1 rfl
   have e58 : get a34 58 = (.tuple #[(.agg #[(.int .i64 (t6_.k)), (.string (t6_.ch)), (.bool (t6_.ng)), t6_.rv.v, (.int .i64 (t6_.mn)), (.int .i64 (t6_.mx)), (.bool (t6_.lz)), t6_.kv.v]), (.int .i64 ((backF cs (i + 1)).2.1))]) := e58
   replace r0 : boxR 58 [cv.v, (.int .i64 ((((backF cs (i + 1)).2.2 : Nat) : Int)))] (τ34 0) v w34 := hro34
   replace r1 := f34.ib 1 rfl
   replace r9 := f34.iz 9 rfl
   have r2 : Fz (zTr (Gn none' w) t6_) τ34 w34 := hz34
   clear f34
   refine only_mk ?_
   refine ops_St (bf := [0, 1, 3, 7]) (sp := [det _ 59 _, det _ 60 _, box _ _ 1 4 [(.int .i64 (t6_.k)), (.string (t6_.ch)), (.bool (t6_.ng)), t6_.rv.v, (.int .i64 (t6_.mn)), (.int .i64 (t6_.mx)), (.bool (t6_.lz)), t6_.kv.v], det _ 5 _]) [ib r0, ib r1, iz r2, Ini.any _, Ini.any _, Ini.any _, Ini.any _, Ini.any _, Ini.any _, iz r9] st34 (by kernel_rfl) ⟨r0, r1, r2, trivial, trivial, trivial, trivial, trivial, trivial, r9, trivial⟩
    ⟨Ob.d fun c => r_extract rfl (c.p e58) rfl,
    Ob.d fun c => r_extract rfl (c.p e58) rfl,
    Ob.storeBox (off := 0) (v := (.agg #[(.int .i64 (t6_.k)), (.string (t6_.ch)), (.bool (t6_.ng)), t6_.rv.v, (.int .i64 (t6_.mn)), (.int .i64 (t6_.mx)), (.bool (t6_.lz)), t6_.kv.v])) rfl rfl rfl rfl Try.sizeOf25 (Nat.le_of_ble_eq_true rfl) (by simp [Value.cells, Value.oneCell', Sv.v]) rfl (fun _ _ _ _ c => ⟨c.bp 1 rfl e4, c.ad ((c.p e4).trans r1.ptr) e4 rfl, (c.n 0 rfl)⟩),
    Ob.d fun c => r_assign rfl (c.n 1 rfl), trivial⟩ ?_
   intro a35 w35 τ35 st35 f35
   obtain ⟨e0, e4, -⟩ := f35.ks [(0, _), (4, _)] ⟨e0, e4, trivial⟩
   have e5 : get a35 5 = (.int .i64 ((backF cs (i + 1)).2.1)) := f35.v 3 rfl
   replace r0 := f35.ib 0 rfl
   replace r1 : boxR 25 [(.int .i64 (t6_.k)), (.string (t6_.ch)), (.bool (t6_.ng)), t6_.rv.v, (.int .i64 (t6_.mn)), (.int .i64 (t6_.mx)), (.bool (t6_.lz)), t6_.kv.v] (τ35 1) b1x4 w35 := f35.rb 2 e4 rfl
   replace r2 := f35.iz 2 rfl
   replace r9 := f35.iz 9 rfl
   clear f35
   show Code.wp _ _ _ a35 w35
   refine wp_ret ?_
   repeat (first | with_reducible refine then_ret ?_ | with_reducible refine block_ret ?_)
   refine ret2c (fn := Try.f55) rfl st35.defers e4 e5 r1 Try.isAgg25 Try.sizeOf25 rfl ?_
   have he_ : atomF sub cs d i = ((er t6_), (backF cs (i + 1)).2.1, (backF cs (i + 1)).2.2) := by rw [hqt6_]; unfold atomF; (repeat (first | rw [if_neg (by first | assumption | (simp only [Bool.not_eq_true]; assumption) | (simp only [Bool.not_eq_false]; assumption) | (exact fun h_ => h_ (by assumption)) | omega)] | rw [if_pos (by first | assumption | omega)])); (try rfl)
   rw [he_]
   exact ⟨t6_, rfl, st35.extIn, r0.foot, r2.out, rfl⟩
 skip
 have htk11 : tkF cs i (⟨#[92]⟩ : ByteArray) = false := hc11
 rw [tkN_f htk11] at r0
 refine wp_skip ?_
 show _
 show Code.wp _ _ _ a33 w33
 refine wp_seq ?_
 refine region_St (bf := [0, 1, 3]) (sp := [det _ 61 _, det _ 62 _, det _ 9 _]) [ib r0, ib r1, Ini.any _, Ini.any _, Ini.any _, Ini.any _, Ini.any _, Ini.any _, Ini.any _, iz r9] mixed st33 (by kernel_rfl) ⟨r0, r1, trivial, trivial, trivial, trivial, trivial, trivial, trivial, r9, trivial⟩
  ⟨Ob.d fun c => r_move rfl (c.p e0),
  Ob.c fun c => ⟨_, _, (e_call1 rfl rfl Try.call47 (c.n 0 rfl)), see_c v cv cs i _ (rdr (c.ib 0 rfl) (c.iz 9 rfl) (fun g_ h_ hz_ => hz_.2 _ h_))⟩,
  Ob.d fun c => r_assign rfl (c.n 1 rfl), trivial⟩ ?_
 intro a36 w36 τ36 st36 f36
 obtain ⟨e0, e4, e5, -⟩ := f36.ks [(0, _), (4, _), (5, _)] ⟨e0, e4, e5, trivial⟩
 have e9 : get a36 9 = (.string (seeF cs i)) := f36.v 2 rfl
 replace r0 := f36.ib 0 rfl
 replace r1 := f36.ib 1 rfl
 replace r9 := f36.iz 9 rfl
 clear f36
 show Code.wp _ _ _ a36 w36
 refine wp_seq ?_
 refine wp_seq ?_
 refine region_St (bf := [0, 1, 3, 7, 15, 31, 63, 127, 255, 511, 1023, 2047, 4095, 8191, 16383, 32767, 65535, 131071, 262143, 524287, 1048575, 2097151, 4194303, 8388607, 16777215, 33554431, 67108863]) (sp := [det _ 63 _, det _ 64 _, det _ 65 _, gdet _ 66 _ _, gdet _ 67 _ _, det _ 68 _, det _ 69 _, gdet _ 70 _ _, gdet _ 71 _ _, det _ 72 _, det _ 73 _, gdet _ 74 _ _, gdet _ 75 _ _, det _ 76 _, det _ 77 _, gdet _ 78 _ _, gdet _ 79 _ _, det _ 80 _, det _ 81 _, gdet _ 82 _ _, gdet _ 83 _ _, det _ 84 _, det _ 85 _, gdet _ 86 _ _, gdet _ 87 _ _, gdet _ 88 _ _, det _ 89 _]) [ib r0, ib r1, Ini.any _, Ini.any _, Ini.any _, Ini.any _, Ini.any _, Ini.any _, Ini.any _, iz r9] mixed st36 (by kernel_rfl) ⟨r0, r1, trivial, trivial, trivial, trivial, trivial, trivial, trivial, r9, trivial⟩
  ⟨Ob.d fun c => r_move rfl (c.p e9),
  Ob.d fun c => r_seql rfl (c.n 0 rfl) rfl,
  Ob.d fun c => r_move rfl (c.n 1 rfl),
  Ob.g 2 false rfl fun c hpc => r_move rfl (c.p e9),
  Ob.g 2 false rfl fun c hpc => r_seql rfl (c.m 3 rfl hpc) rfl,
  Ob.d fun c => r_or rfl (c.n 2 rfl) (fun h => c.m 4 rfl h),
  Ob.d fun c => r_move rfl (c.n 5 rfl),
  Ob.g 6 false rfl fun c hpc => r_move rfl (c.p e9),
  Ob.g 6 false rfl fun c hpc => r_seql rfl (c.m 7 rfl hpc) rfl,
  Ob.d fun c => r_or rfl (c.n 6 rfl) (fun h => c.m 8 rfl h),
  Ob.d fun c => r_move rfl (c.n 9 rfl),
  Ob.g 10 false rfl fun c hpc => r_move rfl (c.p e9),
  Ob.g 10 false rfl fun c hpc => r_seql rfl (c.m 11 rfl hpc) rfl,
  Ob.d fun c => r_or rfl (c.n 10 rfl) (fun h => c.m 12 rfl h),
  Ob.d fun c => r_move rfl (c.n 13 rfl),
  Ob.g 14 false rfl fun c hpc => r_move rfl (c.p e9),
  Ob.g 14 false rfl fun c hpc => r_seql rfl (c.m 15 rfl hpc) rfl,
  Ob.d fun c => r_or rfl (c.n 14 rfl) (fun h => c.m 16 rfl h),
  Ob.d fun c => r_move rfl (c.n 17 rfl),
  Ob.g 18 false rfl fun c hpc => r_move rfl (c.p e9),
  Ob.g 18 false rfl fun c hpc => r_seql rfl (c.m 19 rfl hpc) rfl,
  Ob.d fun c => r_or rfl (c.n 18 rfl) (fun h => c.m 20 rfl h),
  Ob.d fun c => r_move rfl (c.n 21 rfl),
  Ob.g 22 false rfl fun c hpc => r_move rfl (c.p e9),
  Ob.gc 22 false rfl fun c hpc => ⟨_, _, (e_call1 rfl rfl Try.call42 (c.m 23 rfl hpc)), refProper_c (seeF cs i) _ (by have hq0 := hpc; (try simp only [Bool.or_eq_false_iff] at hq0); first | omega | (have h_ := see_size_le hL i; omega))⟩,
  Ob.g 22 false rfl fun c hpc => r_not rfl (c.m 24 rfl hpc),
  Ob.d fun c => r_or rfl (c.n 22 rfl) (fun h => c.m 25 rfl h), trivial⟩ ?_
 intro a37 w37 τ37 st37 f37
 obtain ⟨e0, e4, e5, e9, -⟩ := f37.ks [(0, _), (4, _), (5, _), (9, _)] ⟨e0, e4, e5, e9, trivial⟩
 have e89 : get a37 89 = (.bool (((((((eqT (seeF cs i) (⟨#[42]⟩ : ByteArray)) || (eqT (seeF cs i) (⟨#[43]⟩ : ByteArray))) || (eqT (seeF cs i) (⟨#[63]⟩ : ByteArray))) || (eqT (seeF cs i) (⟨#[41]⟩ : ByteArray))) || (eqT (seeF cs i) (⟨#[123]⟩ : ByteArray))) || (eqT (seeF cs i) (⟨#[124]⟩ : ByteArray))) || (!(properB (seeF cs i))))) := f37.v 26 rfl
 replace r0 := f37.ib 0 rfl
 replace r1 := f37.ib 1 rfl
 replace r9 := f37.iz 9 rfl
 clear f37
 show Code.wp _ _ _ a37 w37
 refine wp_cond_split (t := ((((((eqT (seeF cs i) (⟨#[42]⟩ : ByteArray)) || (eqT (seeF cs i) (⟨#[43]⟩ : ByteArray))) || (eqT (seeF cs i) (⟨#[63]⟩ : ByteArray))) || (eqT (seeF cs i) (⟨#[41]⟩ : ByteArray))) || (eqT (seeF cs i) (⟨#[123]⟩ : ByteArray))) || (eqT (seeF cs i) (⟨#[124]⟩ : ByteArray))) || (!(properB (seeF cs i)))) e89 (fun hc12 => ?_) (fun hc12 => ?_)
 · have hd12 := hc12; try simp only [Bool.or_eq_true, Bool.or_eq_false_iff, Bool.not_eq_true', Bool.not_eq_false'] at hd12
   refine wp_seq ?_
   refine region_St (bf := [0, 1, 3]) (sp := [det _ 90 _, box _ _ 1 4 [(.int .i64 (0)), (.string ((⟨#[]⟩ : ByteArray))), (.bool (false)), (.slice none 0 0), (.int .i64 (0)), (.int .i64 (0)), (.bool (false)), (.slice none 0 0)], det _ 5 _]) [ib r0, ib r1, Ini.any _, Ini.any _, Ini.any _, Ini.any _, Ini.any _, Ini.any _, Ini.any _, iz r9] mixed st37 (by kernel_rfl) ⟨r0, r1, trivial, trivial, trivial, trivial, trivial, trivial, trivial, r9, trivial⟩
    ⟨Ob.d fun c => r_build (cells := #[(.int .i64 (0)), (.string ((⟨#[]⟩ : ByteArray))), (.bool (false)), (.slice none 0 0), (.int .i64 (0)), (.int .i64 (0)), (.bool (false)), (.slice none 0 0)]) rfl Try.underlying25 Try.zeroValue25 (pl := #[(0, 1), (1, 1), (2, 1), (3, 1), (4, 1), (5, 1), (6, 1), (7, 1)]) (fun w_ => by simp [Try.sizeOf22, Try.sizeOf23, Try.sizeOf3, Try.sizeOf4, Try.sizeOf9]) (by simp only [List.map_toArray, List.map_nil]; rfl),
    Ob.storeBox (off := 0) (v := (.agg #[(.int .i64 (0)), (.string ((⟨#[]⟩ : ByteArray))), (.bool (false)), (.slice none 0 0), (.int .i64 (0)), (.int .i64 (0)), (.bool (false)), (.slice none 0 0)])) rfl rfl rfl rfl Try.sizeOf25 (Nat.le_of_ble_eq_true rfl) (by simp [Value.cells, Value.oneCell', Sv.v]) rfl (fun _ _ _ _ c => ⟨c.bp 1 rfl e4, c.ad ((c.p e4).trans r1.ptr) e4 rfl, (c.n 0 rfl)⟩),
    Ob.d fun c => r_assign rfl rfl, trivial⟩ ?_
   intro a38 w38 τ38 st38 f38
   obtain ⟨e0, e4, e9, -⟩ := f38.ks [(0, _), (4, _), (9, _)] ⟨e0, e4, e9, trivial⟩
   have e5 : get a38 5 = (.int .i64 (10)) := f38.v 2 rfl
   replace r0 := f38.ib 0 rfl
   replace r1 : boxR 25 [(.int .i64 (0)), (.string ((⟨#[]⟩ : ByteArray))), (.bool (false)), (.slice none 0 0), (.int .i64 (0)), (.int .i64 (0)), (.bool (false)), (.slice none 0 0)] (τ38 1) b1x4 w38 := f38.rb 1 e4 rfl
   replace r9 := f38.iz 9 rfl
   clear f38
   show Code.wp _ _ _ a38 w38
   refine wp_ret ?_
   repeat (first | with_reducible refine then_ret ?_ | with_reducible refine block_ret ?_)
   refine ret2c (fn := Try.f55) rfl st38.defers e4 e5 r1 Try.isAgg25 Try.sizeOf25 rfl ?_
   have he_ : atomF sub cs d i = ((leafT 0 (⟨#[]⟩ : ByteArray) false 0 0 false), 10, i) := by unfold atomF; (repeat (first | rw [if_neg (by first | assumption | (simp only [Bool.not_eq_true]; assumption) | (simp only [Bool.not_eq_false]; assumption) | (exact fun h_ => h_ (by assumption)) | omega)] | rw [if_pos (by first | assumption | omega)])); (try rfl)
   rw [he_]
   exact ⟨(leafT 0 (⟨#[]⟩ : ByteArray) false 0 0 false), rfl, st38.extIn, r0.foot, (leafTr _ _ _ _ _ _ _ _), rfl⟩
 have hd12 := hc12; try simp only [Bool.or_eq_true, Bool.or_eq_false_iff, Bool.not_eq_true', Bool.not_eq_false'] at hd12
 refine wp_skip ?_
 show Code.wp _ _ _ a37 w37
 refine wp_seq ?_
 have hlt_ : i < cs.length := by
   have h_ : badC (seeF cs i) = false := by assumption
   cases hz_ : eqT (seeF cs i) (⟨#[]⟩ : ByteArray) with
   | false => exact see_ne hz_
   | true =>
     have he2_ : seeF cs i = (⟨#[]⟩ : ByteArray) := eqT_iff.1 hz_
     rw [he2_] at h_
     exact absurd h_ (by decide +kernel)
 refine region_St (bf := [0, 1, 3, 7, 15, 31, 63, 127]) (sp := [det _ 91 _, det _ 92 _, det _ 93 _, det _ 94 _, det _ 95 _, det _ 96 _, det _ 97 _, box _ _ 0 0 [cv.v, (.int .i64 (((i : Nat) : Int) + 1))]]) [ib r0, ib r1, Ini.any _, Ini.any _, Ini.any _, Ini.any _, Ini.any _, Ini.any _, Ini.any _, iz r9] mixed st37 (by kernel_rfl) ⟨r0, r1, trivial, trivial, trivial, trivial, trivial, trivial, trivial, r9, trivial⟩
  ⟨Ob.d fun c => r_move rfl (c.p e0),
  Ob.d fun c => r_nilCheck rfl (c.n 0 rfl) r0.ptr,
  Ob.d fun c => r_fieldAddr rfl Try.underlying58 rfl rfl Try.sizeOf3 ((c.n 1 rfl).trans r0.ptr),
  Ob.d fun c => r_load1 rfl Try.isAgg3 (c.n 2 rfl) ((c.ib 0 rfl).cell (j := 1) rfl),
  Ob.d fun c => r_add rfl (c.n 3 rfl) rfl (by first | omega | (have h_ := see_size_le hL i; omega)),
  Ob.d fun c => r_nilCheck rfl (c.n 0 rfl) r0.ptr,
  Ob.d fun c => r_fieldAddr rfl Try.underlying58 rfl rfl Try.sizeOf3 ((c.n 5 rfl).trans r0.ptr),
  Ob.storeBox (off := 1) (v := (.int .i64 (((i : Nat) : Int) + 1))) rfl rfl rfl rfl Try.sizeOf3 (Nat.le_of_ble_eq_true rfl) (by simp [Value.cells, Value.oneCell', Sv.v]) rfl (fun _ _ _ _ c => ⟨c.bp 0 rfl e0, c.ad (c.n 6 rfl) e0 rfl, (c.n 4 rfl)⟩), trivial⟩ ?_
 intro a39 w39 τ39 st39 f39
 obtain ⟨e0, e4, e5, e9, -⟩ := f39.ks [(0, _), (4, _), (5, _), (9, _)] ⟨e0, e4, e5, e9, trivial⟩
 replace r0 : boxR 58 [cv.v, (.int .i64 (((i : Nat) : Int) + 1))] (τ39 0) v w39 := f39.rb 7 e0 rfl
 replace r1 := f39.ib 1 rfl
 replace r9 := f39.iz 9 rfl
 clear f39
 replace r0 : boxR 58 [cv.v, .int .i64 ((i + 1 : Nat) : Int)] (τ39 0) v w39 := by rw [show ((i + 1 : Nat) : Int) = ((i : Nat) : Int) + 1 from by omega]; exact r0
 show Code.wp _ _ _ a39 w39
 refine wp_seq ?_
 refine region_St (bf := [0, 1, 3, 7]) (sp := [det _ 98 _, det _ 99 _, box _ _ 1 4 [(.int .i64 (2)), (.string (seeF cs i)), (.bool (false)), (.slice none 0 0), (.int .i64 (0)), (.int .i64 (0)), (.bool (false)), (.slice none 0 0)], det _ 5 _]) [ib r0, ib r1, Ini.any _, Ini.any _, Ini.any _, Ini.any _, Ini.any _, Ini.any _, Ini.any _, iz r9] mixed st39 (by kernel_rfl) ⟨r0, r1, trivial, trivial, trivial, trivial, trivial, trivial, trivial, r9, trivial⟩
  ⟨Ob.d fun c => r_move rfl (c.p e9),
  Ob.d fun c => r_build (cells := #[(.int .i64 (2)), (.string (seeF cs i)), (.bool (false)), (.slice none 0 0), (.int .i64 (0)), (.int .i64 (0)), (.bool (false)), (.slice none 0 0)]) rfl Try.underlying25 Try.zeroValue25 (pl := #[(0, 1), (1, 1), (2, 1), (3, 1), (4, 1), (5, 1), (6, 1), (7, 1)]) (fun w_ => by simp [Try.sizeOf22, Try.sizeOf23, Try.sizeOf3, Try.sizeOf4, Try.sizeOf9]) (fill2 rfl (c.n 0 rfl) rfl),
  Ob.storeBox (off := 0) (v := (.agg #[(.int .i64 (2)), (.string (seeF cs i)), (.bool (false)), (.slice none 0 0), (.int .i64 (0)), (.int .i64 (0)), (.bool (false)), (.slice none 0 0)])) rfl rfl rfl rfl Try.sizeOf25 (Nat.le_of_ble_eq_true rfl) (by simp [Value.cells, Value.oneCell', Sv.v]) rfl (fun _ _ _ _ c => ⟨c.bp 1 rfl e4, c.ad ((c.p e4).trans r1.ptr) e4 rfl, (c.n 1 rfl)⟩),
  Ob.d fun c => r_assign rfl rfl, trivial⟩ ?_
 intro a40 w40 τ40 st40 f40
 obtain ⟨e0, e4, -⟩ := f40.ks [(0, _), (4, _)] ⟨e0, e4, trivial⟩
 have e5 : get a40 5 = (.int .i64 (0)) := f40.v 3 rfl
 replace r0 := f40.ib 0 rfl
 replace r1 : boxR 25 [(.int .i64 (2)), (.string (seeF cs i)), (.bool (false)), (.slice none 0 0), (.int .i64 (0)), (.int .i64 (0)), (.bool (false)), (.slice none 0 0)] (τ40 1) b1x4 w40 := f40.rb 2 e4 rfl
 replace r9 := f40.iz 9 rfl
 clear f40
 show Code.wp _ _ _ a40 w40
 refine wp_ret ?_
 repeat (first | with_reducible refine then_ret ?_ | with_reducible refine block_ret ?_)
 refine ret2c (fn := Try.f55) rfl st40.defers e4 e5 r1 Try.isAgg25 Try.sizeOf25 rfl ?_
 have he_ : atomF sub cs d i = ((leafT 2 (seeF cs i) false 0 0 false), 0, i + 1) := by unfold atomF; (repeat (first | rw [if_neg (by first | assumption | (simp only [Bool.not_eq_true]; assumption) | (simp only [Bool.not_eq_false]; assumption) | (exact fun h_ => h_ (by assumption)) | omega)] | rw [if_pos (by first | assumption | omega)])); (try rfl)
 rw [he_]
 exact ⟨(leafT 2 (seeF cs i) false 0 0 false), rfl, st40.extIn, r0.foot, (leafTr _ _ _ _ _ _ _ _), rfl⟩
end B
end Go.Proofs.Ytocmchlhbniloaa
namespace Go.Proofs.Ytocmchlhbniloaa
namespace B
open Go.RowKit
open Srt
set_option maxRecDepth 100000 in
set_option maxHeartbeats 4000000 in
theorem term_c (sub : Int → Nat → Tr × Int × Nat) (d : Int) (v : Value) (cv : Sv) (cs : List ByteArray) (i : Nat) (w : World) (hR : RdR 58 v cv cs i w) (hL : CsOk cs) (hi : i ≤ cs.length + 0) (hd : 0 ≤ d ∧ d ≤ 16) (hsub : ∀ (d2 : Int) (j : Nat) (w2 : World), RdR 58 v cv cs j w2 → i < j → j ≤ cs.length → 0 ≤ d2 ∧ d2 ≤ 16 → Calls Try.prog 39 #[v, .int .i64 d2] w2 (fun e w3 => ∃ t' : Tr, e = .returned (.tuple #[t'.v, .int .i64 (sub d2 j).2.1]) ∧ Ext (ptrFoot v) w2 w3 ∧ boxR 58 [cv.v, .int .i64 (((sub d2 j).2.2 : Nat) : Int)] (ptrFoot v) v w3 ∧ TrT (Gn none' w2) w3 t' ∧ er t' = (sub d2 j).1)) (hsb : ∀ (d2 : Int) (j : Nat), (sub d2 j).2.1 = 0 → j ≤ (sub d2 j).2.2 ∧ ((sub d2 j).2.2 ≤ cs.length ∨ (sub d2 j).2.2 = j)) : Calls Try.prog 48 #[v, (.int .i64 (d))] w (fun e w' => ∃ t' : Tr, e = .returned (.tuple #[t'.v, .int .i64 (termF sub cs d i).2.1]) ∧ Ext (ptrFoot v) w w' ∧ boxR 58 [cv.v, .int .i64 (((termF sub cs d i).2.2 : Nat) : Int)] (ptrFoot v) v w' ∧ TrT (Gn none' w) w' t' ∧ er t' = (termF sub cs d i).1) := by
 refine enterIn (ptrFoot v) (fun g hg => hR.box.lt g hg) (n := 111) Try.func48 rfl rfl (Nat.le_of_ble_eq_true rfl) ?_
 intro a0 τ0 ha hτ st0
 have e0 : get a0 0 = v := ha 0 _ rfl
 have e1 : get a0 1 = (.int .i64 (d)) := ha 1 _ rfl
 clear ha
 have hL1 := hL.1
 have r0 : boxR 58 [cv.v, .int .i64 ((i : Nat) : Int)] (τ0 0) v w := by rw [hτ]; exact hR.box
 have r9 : Fz (zSl StrE Al cv.v cs) τ0 w := hR.inz st0
 refine wp_seq ?_
 refine region_St (bf := [0, 0]) (sp := [box _ _ 1 4 [(.int .i64 (0)), (.string ((⟨#[]⟩ : ByteArray))), (.bool (false)), (.slice none 0 0), (.int .i64 (0)), (.int .i64 (0)), (.bool (false)), (.slice none 0 0)], det _ 5 _]) [ib r0, Ini.any _, Ini.any _, Ini.any _, Ini.any _, Ini.any _, Ini.any _, Ini.any _, Ini.any _, iz r9] mixed st0 (by kernel_rfl) ⟨r0, trivial, trivial, trivial, trivial, trivial, trivial, trivial, trivial, r9, trivial⟩
  ⟨Ob.alloc rfl rfl rfl rfl Try.zeroValue25 rfl,
  Ob.d fun c => r_assign rfl rfl, trivial⟩ ?_
 intro a1 w1 τ1 st1 f1
 obtain ⟨b1x4, e4⟩ : ∃ b, get a1 4 = b := ⟨_, rfl⟩
 obtain ⟨e0, e1, -⟩ := f1.ks [(0, _), (1, _)] ⟨e0, e1, trivial⟩
 have e5 : get a1 5 = (.int .i64 (0)) := f1.v 1 rfl
 replace r0 := f1.ib 0 rfl
 have r1 : boxR 25 [(.int .i64 (0)), (.string ((⟨#[]⟩ : ByteArray))), (.bool (false)), (.slice none 0 0), (.int .i64 (0)), (.int .i64 (0)), (.bool (false)), (.slice none 0 0)] (τ1 1) b1x4 w1 := f1.rb 0 e4 rfl
 replace r9 := f1.iz 9 rfl
 clear f1
 show Code.wp _ _ _ a1 w1
 refine wp_seq ?_
 refine wp_block ?_
 refine wp_seq ?_
 refine region_St (bf := [0, 1, 3]) (sp := [det _ 9 _, dbox 58 _ 0 10 v [cv.v, (.int .i64 (((tkN cs i (⟨#[94]⟩ : ByteArray) : Nat) : Int)))] (.bool (tkF cs i (⟨#[94]⟩ : ByteArray))), det _ 8 _]) [ib r0, ib r1, Ini.any _, Ini.any _, Ini.any _, Ini.any _, Ini.any _, Ini.any _, Ini.any _, iz r9] mixed st1 (by kernel_rfl) ⟨r0, r1, trivial, trivial, trivial, trivial, trivial, trivial, trivial, r9, trivial⟩
  ⟨Ob.d fun c => r_move rfl (c.p e0),
  Ob.db fun {_ a_ _ _} c => ⟨_, _, (e_call2 rfl rfl Try.call49 (c.n 0 rfl) rfl), db_of (c.ib 0 rfl) (take_c v cv cs i (⟨#[94]⟩ : ByteArray) _ (rdr (c.ib 0 rfl) (c.iz 9 rfl) (fun g_ h_ hz_ => hz_.2 _ h_)) hL (by omega))⟩,
  Ob.d fun c => r_assign rfl (c.dv 1 rfl), trivial⟩ ?_
 intro a2 w2 τ2 st2 f2
 obtain ⟨e0, e1, e4, e5, -⟩ := f2.ks [(0, _), (1, _), (4, _), (5, _)] ⟨e0, e1, e4, e5, trivial⟩
 have e8 : get a2 8 = (.bool (tkF cs i (⟨#[94]⟩ : ByteArray))) := f2.v 2 rfl
 replace r0 : boxR 58 [cv.v, (.int .i64 (((tkN cs i (⟨#[94]⟩ : ByteArray) : Nat) : Int)))] (τ2 0) v w2 := f2.db 1 rfl
 replace r1 := f2.ib 1 rfl
 replace r9 := f2.iz 9 rfl
 clear f2
 show Code.wp _ _ _ a2 w2
 refine wp_cond_split (t := tkF cs i (⟨#[94]⟩ : ByteArray)) e8 (fun hc1 => ?_) (fun hc1 => ?_)
 · skip
   have htk1 : tkF cs i (⟨#[94]⟩ : ByteArray) = true := hc1
   have htl1 := tk_lt htk1
   rw [tkN_t htk1] at r0
   refine wp_seq ?_
   refine region_St (bf := [0, 1, 3]) (sp := [det _ 11 _, box _ _ 1 4 [(.int .i64 (8)), (.string ((⟨#[]⟩ : ByteArray))), (.bool (false)), (.slice none 0 0), (.int .i64 (0)), (.int .i64 (0)), (.bool (false)), (.slice none 0 0)], det _ 5 _]) [ib r0, ib r1, Ini.any _, Ini.any _, Ini.any _, Ini.any _, Ini.any _, Ini.any _, Ini.any _, iz r9] mixed st2 (by kernel_rfl) ⟨r0, r1, trivial, trivial, trivial, trivial, trivial, trivial, trivial, r9, trivial⟩
    ⟨Ob.d fun c => r_build (cells := #[(.int .i64 (8)), (.string ((⟨#[]⟩ : ByteArray))), (.bool (false)), (.slice none 0 0), (.int .i64 (0)), (.int .i64 (0)), (.bool (false)), (.slice none 0 0)]) rfl Try.underlying25 Try.zeroValue25 (pl := #[(0, 1), (1, 1), (2, 1), (3, 1), (4, 1), (5, 1), (6, 1), (7, 1)]) (fun w_ => by simp [Try.sizeOf22, Try.sizeOf23, Try.sizeOf3, Try.sizeOf4, Try.sizeOf9]) (fill1 rfl rfl),
    Ob.storeBox (off := 0) (v := (.agg #[(.int .i64 (8)), (.string ((⟨#[]⟩ : ByteArray))), (.bool (false)), (.slice none 0 0), (.int .i64 (0)), (.int .i64 (0)), (.bool (false)), (.slice none 0 0)])) rfl rfl rfl rfl Try.sizeOf25 (Nat.le_of_ble_eq_true rfl) (by simp [Value.cells, Value.oneCell', Sv.v]) rfl (fun _ _ _ _ c => ⟨c.bp 1 rfl e4, c.ad ((c.p e4).trans r1.ptr) e4 rfl, (c.n 0 rfl)⟩),
    Ob.d fun c => r_assign rfl rfl, trivial⟩ ?_
   intro a3 w3 τ3 st3 f3
   obtain ⟨e0, e1, e4, -⟩ := f3.ks [(0, _), (1, _), (4, _)] ⟨e0, e1, e4, trivial⟩
   have e5 : get a3 5 = (.int .i64 (0)) := f3.v 2 rfl
   replace r0 := f3.ib 0 rfl
   replace r1 : boxR 25 [(.int .i64 (8)), (.string ((⟨#[]⟩ : ByteArray))), (.bool (false)), (.slice none 0 0), (.int .i64 (0)), (.int .i64 (0)), (.bool (false)), (.slice none 0 0)] (τ3 1) b1x4 w3 := f3.rb 1 e4 rfl
   replace r9 := f3.iz 9 rfl
   clear f3
   show Code.wp _ _ _ a3 w3
   refine wp_ret ?_
   repeat (first | with_reducible refine then_ret ?_ | with_reducible refine block_ret ?_)
   refine ret2c (fn := Try.f48) rfl st3.defers e4 e5 r1 Try.isAgg25 Try.sizeOf25 rfl ?_
   have he_ : termF sub cs d i = ((leafT 8 (⟨#[]⟩ : ByteArray) false 0 0 false), 0, i + 1) := by unfold termF; (repeat (first | rw [if_neg (by first | assumption | (simp only [Bool.not_eq_true]; assumption) | (simp only [Bool.not_eq_false]; assumption) | (exact fun h_ => h_ (by assumption)) | omega)] | rw [if_pos (by first | assumption | omega)])); (try rfl)
   rw [he_]
   exact ⟨(leafT 8 (⟨#[]⟩ : ByteArray) false 0 0 false), rfl, st3.extIn, r0.foot, (leafTr _ _ _ _ _ _ _ _), rfl⟩
 skip
 have htk1 : tkF cs i (⟨#[94]⟩ : ByteArray) = false := hc1
 rw [tkN_f htk1] at r0
 refine wp_seq ?_
 refine region_St (bf := [0, 1, 3]) (sp := [det _ 13 _, dbox 58 _ 0 14 v [cv.v, (.int .i64 (((tkN cs i (⟨#[36]⟩ : ByteArray) : Nat) : Int)))] (.bool (tkF cs i (⟨#[36]⟩ : ByteArray))), det _ 12 _]) [ib r0, ib r1, Ini.any _, Ini.any _, Ini.any _, Ini.any _, Ini.any _, Ini.any _, Ini.any _, iz r9] mixed st2 (by kernel_rfl) ⟨r0, r1, trivial, trivial, trivial, trivial, trivial, trivial, trivial, r9, trivial⟩
  ⟨Ob.d fun c => r_move rfl (c.p e0),
  Ob.db fun {_ a_ _ _} c => ⟨_, _, (e_call2 rfl rfl Try.call49 (c.n 0 rfl) rfl), db_of (c.ib 0 rfl) (take_c v cv cs i (⟨#[36]⟩ : ByteArray) _ (rdr (c.ib 0 rfl) (c.iz 9 rfl) (fun g_ h_ hz_ => hz_.2 _ h_)) hL (by omega))⟩,
  Ob.d fun c => r_assign rfl (c.dv 1 rfl), trivial⟩ ?_
 intro a4 w4 τ4 st4 f4
 obtain ⟨e0, e1, e4, e5, -⟩ := f4.ks [(0, _), (1, _), (4, _), (5, _)] ⟨e0, e1, e4, e5, trivial⟩
 have e12 : get a4 12 = (.bool (tkF cs i (⟨#[36]⟩ : ByteArray))) := f4.v 2 rfl
 replace r0 : boxR 58 [cv.v, (.int .i64 (((tkN cs i (⟨#[36]⟩ : ByteArray) : Nat) : Int)))] (τ4 0) v w4 := f4.db 1 rfl
 replace r1 := f4.ib 1 rfl
 replace r9 := f4.iz 9 rfl
 clear f4
 show Code.wp _ _ _ a4 w4
 refine wp_cond_split (t := tkF cs i (⟨#[36]⟩ : ByteArray)) e12 (fun hc2 => ?_) (fun hc2 => ?_)
 · skip
   have htk2 : tkF cs i (⟨#[36]⟩ : ByteArray) = true := hc2
   have htl2 := tk_lt htk2
   rw [tkN_t htk2] at r0
   refine wp_seq ?_
   refine region_St (bf := [0, 1, 3]) (sp := [det _ 15 _, box _ _ 1 4 [(.int .i64 (9)), (.string ((⟨#[]⟩ : ByteArray))), (.bool (false)), (.slice none 0 0), (.int .i64 (0)), (.int .i64 (0)), (.bool (false)), (.slice none 0 0)], det _ 5 _]) [ib r0, ib r1, Ini.any _, Ini.any _, Ini.any _, Ini.any _, Ini.any _, Ini.any _, Ini.any _, iz r9] mixed st4 (by kernel_rfl) ⟨r0, r1, trivial, trivial, trivial, trivial, trivial, trivial, trivial, r9, trivial⟩
    ⟨Ob.d fun c => r_build (cells := #[(.int .i64 (9)), (.string ((⟨#[]⟩ : ByteArray))), (.bool (false)), (.slice none 0 0), (.int .i64 (0)), (.int .i64 (0)), (.bool (false)), (.slice none 0 0)]) rfl Try.underlying25 Try.zeroValue25 (pl := #[(0, 1), (1, 1), (2, 1), (3, 1), (4, 1), (5, 1), (6, 1), (7, 1)]) (fun w_ => by simp [Try.sizeOf22, Try.sizeOf23, Try.sizeOf3, Try.sizeOf4, Try.sizeOf9]) (fill1 rfl rfl),
    Ob.storeBox (off := 0) (v := (.agg #[(.int .i64 (9)), (.string ((⟨#[]⟩ : ByteArray))), (.bool (false)), (.slice none 0 0), (.int .i64 (0)), (.int .i64 (0)), (.bool (false)), (.slice none 0 0)])) rfl rfl rfl rfl Try.sizeOf25 (Nat.le_of_ble_eq_true rfl) (by simp [Value.cells, Value.oneCell', Sv.v]) rfl (fun _ _ _ _ c => ⟨c.bp 1 rfl e4, c.ad ((c.p e4).trans r1.ptr) e4 rfl, (c.n 0 rfl)⟩),
    Ob.d fun c => r_assign rfl rfl, trivial⟩ ?_
   intro a5 w5 τ5 st5 f5
   obtain ⟨e0, e1, e4, -⟩ := f5.ks [(0, _), (1, _), (4, _)] ⟨e0, e1, e4, trivial⟩
   have e5 : get a5 5 = (.int .i64 (0)) := f5.v 2 rfl
   replace r0 := f5.ib 0 rfl
   replace r1 : boxR 25 [(.int .i64 (9)), (.string ((⟨#[]⟩ : ByteArray))), (.bool (false)), (.slice none 0 0), (.int .i64 (0)), (.int .i64 (0)), (.bool (false)), (.slice none 0 0)] (τ5 1) b1x4 w5 := f5.rb 1 e4 rfl
   replace r9 := f5.iz 9 rfl
   clear f5
   show Code.wp _ _ _ a5 w5
   refine wp_ret ?_
   repeat (first | with_reducible refine then_ret ?_ | with_reducible refine block_ret ?_)
   refine ret2c (fn := Try.f48) rfl st5.defers e4 e5 r1 Try.isAgg25 Try.sizeOf25 rfl ?_
   have he_ : termF sub cs d i = ((leafT 9 (⟨#[]⟩ : ByteArray) false 0 0 false), 0, i + 1) := by unfold termF; (repeat (first | rw [if_neg (by first | assumption | (simp only [Bool.not_eq_true]; assumption) | (simp only [Bool.not_eq_false]; assumption) | (exact fun h_ => h_ (by assumption)) | omega)] | rw [if_pos (by first | assumption | omega)])); (try rfl)
   rw [he_]
   exact ⟨(leafT 9 (⟨#[]⟩ : ByteArray) false 0 0 false), rfl, st5.extIn, r0.foot, (leafTr _ _ _ _ _ _ _ _), rfl⟩
 skip
 have htk2 : tkF cs i (⟨#[36]⟩ : ByteArray) = false := hc2
 rw [tkN_f htk2] at r0
 refine wp_seq ?_
 refine region_St (bf := [0, 1, 3, 7, 15, 31, 63, 127, 255, 15, 527, 1551, 3599, 7695, 16383, 32767, 65535, 131071, 262143, 524287, 1048575, 131071, 2228223, 6422527, 14811135, 31588351, 67108863, 134217727, 268435455, 536870911, 1073741823]) (sp := [det _ 17 _, det _ 18 _, det _ 19 _, det _ 20 _, gdet _ 21 _ _, gdet _ 22 _ _, gdet _ 23 _ _, gdet _ 24 _ _, gdet _ 25 _ _, gdet _ 26 _ _, gdet _ 27 _ _, gdet _ 28 _ _, gdet _ 29 _ _, gdet _ 30 _ _, gdet _ 31 _ _, det _ 32 _, det _ 33 _, gdet _ 34 _ _, gdet _ 35 _ _, gdet _ 36 _ _, gdet _ 37 _ _, gdet _ 38 _ _, gdet _ 39 _ _, gdet _ 40 _ _, gdet _ 41 _ _, gdet _ 42 _ _, gdet _ 43 _ _, gdet _ 44 _ _, gdet _ 45 _ _, det _ 46 _, det _ 16 _]) [ib r0, ib r1, Ini.any _, Ini.any _, Ini.any _, Ini.any _, Ini.any _, Ini.any _, Ini.any _, iz r9] mixed st4 (by kernel_rfl) ⟨r0, r1, trivial, trivial, trivial, trivial, trivial, trivial, trivial, r9, trivial⟩
  ⟨Ob.d fun c => r_move rfl (c.p e0),
  Ob.c fun c => ⟨_, _, (e_call1 rfl rfl Try.call47 (c.n 0 rfl)), see_c v cv cs i _ (rdr (c.ib 0 rfl) (c.iz 9 rfl) (fun g_ h_ hz_ => hz_.2 _ h_))⟩,
  Ob.d fun c => r_seql rfl (c.n 1 rfl) rfl,
  Ob.d fun c => r_move rfl (c.n 2 rfl),
  Ob.g 3 true rfl fun c hpc => r_move rfl (c.p e0),
  Ob.g 3 true rfl fun c hpc => r_nilCheck rfl (c.m 4 rfl hpc) r0.ptr,
  Ob.g 3 true rfl fun c hpc => r_fieldAddr rfl Try.underlying58 rfl rfl Try.sizeOf3 ((c.m 5 rfl hpc).trans r0.ptr),
  Ob.g 3 true rfl fun c hpc => r_load1 rfl Try.isAgg3 (c.m 6 rfl hpc) ((c.ib 0 rfl).cell (j := 1) rfl),
  Ob.g 3 true rfl fun c hpc => r_add rfl (c.m 7 rfl hpc) rfl (by have hq0 := hpc; omega),
  Ob.g 3 true rfl fun c hpc => r_move rfl (c.p e0),
  Ob.g 3 true rfl fun c hpc => r_nilCheck rfl (c.m 9 rfl hpc) r0.ptr,
  Ob.g 3 true rfl fun c hpc => r_fieldAddr rfl Try.underlying58 rfl rfl Try.sizeOf32 ((c.m 10 rfl hpc).trans r0.ptr),
  Ob.g 3 true rfl fun c hpc => r_load1 rfl Try.isAgg32 (c.m 11 rfl hpc) ((c.ib 0 rfl).cell (j := 0) rfl),
  Ob.g 3 true rfl fun c hpc => r_len rfl Try.underlying32 (c.m 12 rfl hpc) (r9).1.sl,
  Ob.g 3 true rfl fun c hpc => r_lss rfl (c.m 8 rfl hpc) (c.m 13 rfl hpc),
  Ob.d fun c => r_and rfl (c.n 3 rfl) (fun h => c.m 14 rfl h),
  Ob.d fun c => r_move rfl (c.n 15 rfl),
  Ob.g 16 true rfl fun c hpc => r_move rfl (c.p e0),
  Ob.g 16 true rfl fun c hpc => r_nilCheck rfl (c.m 17 rfl hpc) r0.ptr,
  Ob.g 16 true rfl fun c hpc => r_fieldAddr rfl Try.underlying58 rfl rfl Try.sizeOf32 ((c.m 18 rfl hpc).trans r0.ptr),
  Ob.g 16 true rfl fun c hpc => r_load1 rfl Try.isAgg32 (c.m 19 rfl hpc) ((c.ib 0 rfl).cell (j := 0) rfl),
  Ob.g 16 true rfl fun c hpc => r_move rfl (c.p e0),
  Ob.g 16 true rfl fun c hpc => r_nilCheck rfl (c.m 21 rfl hpc) r0.ptr,
  Ob.g 16 true rfl fun c hpc => r_fieldAddr rfl Try.underlying58 rfl rfl Try.sizeOf3 ((c.m 22 rfl hpc).trans r0.ptr),
  Ob.g 16 true rfl fun c hpc => r_load1 rfl Try.isAgg3 (c.m 23 rfl hpc) ((c.ib 0 rfl).cell (j := 1) rfl),
  Ob.g 16 true rfl fun c hpc => r_add rfl (c.m 24 rfl hpc) rfl (by have hq0 := hpc; (try simp only [Bool.and_eq_true, decide_eq_true_eq] at hq0); omega),
  Ob.g 16 true rfl fun c hpc => r_indexAddr rfl Try.underlying32 Try.sizeOf9 (c.m 20 rfl hpc) (r9).1.sl (c.m 25 rfl hpc) (by have hq0 := hpc; (try simp only [Bool.and_eq_true, decide_eq_true_eq] at hq0); omega) (by have hq0 := hpc; (try simp only [Bool.and_eq_true, decide_eq_true_eq] at hq0); omega),
  Ob.g 16 true rfl fun c hpc => r_load1 rfl Try.isAgg9 (c.m 26 rfl hpc) ((((c.iz 9 rfl)).1).elem (j := 0) (nth_some (i := ((i : Nat) : Int) + 1) (by have hq0 := hpc; (try simp only [Bool.and_eq_true, decide_eq_true_eq] at hq0); omega) (by have hq0 := hpc; (try simp only [Bool.and_eq_true, decide_eq_true_eq] at hq0); omega)) rfl),
  Ob.g 16 true rfl fun c hpc => r_seql rfl (c.m 27 rfl hpc) rfl,
  Ob.d fun c => r_and rfl (c.n 16 rfl) (fun h => c.m 28 rfl h),
  Ob.d fun c => r_assign rfl (c.n 29 rfl), trivial⟩ ?_
 intro a6 w6 τ6 st6 f6
 obtain ⟨e0, e1, e4, e5, -⟩ := f6.ks [(0, _), (1, _), (4, _), (5, _)] ⟨e0, e1, e4, e5, trivial⟩
 have e16 : get a6 16 = (.bool (((eqT (seeF cs i) (⟨#[92]⟩ : ByteArray)) && (decide (((i : Nat) : Int) + 1 < (cs.length : Int)))) && (eqT (nth cs (((i : Nat) : Int) + 1)) (⟨#[98]⟩ : ByteArray)))) := f6.v 30 rfl
 replace r0 := f6.ib 0 rfl
 replace r1 := f6.ib 1 rfl
 replace r9 := f6.iz 9 rfl
 clear f6
 show Code.wp _ _ _ a6 w6
 refine wp_cond_split (t := ((eqT (seeF cs i) (⟨#[92]⟩ : ByteArray)) && (decide (((i : Nat) : Int) + 1 < (cs.length : Int)))) && (eqT (nth cs (((i : Nat) : Int) + 1)) (⟨#[98]⟩ : ByteArray))) e16 (fun hc3 => ?_) (fun hc3 => ?_)
 · have hd3 := hc3; try simp only [Bool.and_eq_true, decide_eq_true_eq] at hd3
   refine wp_seq ?_
   have hel := edge_lt (by assumption : edgeB cs i (⟨#[98]⟩ : ByteArray) = true)
   refine region_St (bf := [0, 0, 2, 6, 14, 30, 63, 127, 255]) (sp := [det _ 47 _, det _ 48 _, det _ 49 _, det _ 50 _, det _ 51 _, det _ 52 _, det _ 53 _, det _ 54 _, box _ _ 0 0 [cv.v, (.int .i64 (((i : Nat) : Int) + 2))]]) [ib r0, ib r1, Ini.any _, Ini.any _, Ini.any _, Ini.any _, Ini.any _, Ini.any _, Ini.any _, iz r9] mixed st6 (by kernel_rfl) ⟨r0, r1, trivial, trivial, trivial, trivial, trivial, trivial, trivial, r9, trivial⟩
    ⟨Ob.d fun c => r_move rfl (c.p e0),
    Ob.d fun c => r_move rfl (c.p e0),
    Ob.d fun c => r_nilCheck rfl (c.n 1 rfl) r0.ptr,
    Ob.d fun c => r_fieldAddr rfl Try.underlying58 rfl rfl Try.sizeOf3 ((c.n 2 rfl).trans r0.ptr),
    Ob.d fun c => r_load1 rfl Try.isAgg3 (c.n 3 rfl) ((c.ib 0 rfl).cell (j := 1) rfl),
    Ob.d fun c => r_add rfl (c.n 4 rfl) rfl (by omega),
    Ob.d fun c => r_nilCheck rfl (c.n 0 rfl) r0.ptr,
    Ob.d fun c => r_fieldAddr rfl Try.underlying58 rfl rfl Try.sizeOf3 ((c.n 6 rfl).trans r0.ptr),
    Ob.storeBox (off := 1) (v := (.int .i64 (((i : Nat) : Int) + 2))) rfl rfl rfl rfl Try.sizeOf3 (Nat.le_of_ble_eq_true rfl) (by simp [Value.cells, Value.oneCell', Sv.v]) rfl (fun _ _ _ _ c => ⟨c.bp 0 rfl e0, c.ad (c.n 7 rfl) e0 rfl, (c.n 5 rfl)⟩), trivial⟩ ?_
   intro a7 w7 τ7 st7 f7
   obtain ⟨e0, e1, e4, e5, -⟩ := f7.ks [(0, _), (1, _), (4, _), (5, _)] ⟨e0, e1, e4, e5, trivial⟩
   replace r0 : boxR 58 [cv.v, (.int .i64 (((i : Nat) : Int) + 2))] (τ7 0) v w7 := f7.rb 8 e0 rfl
   replace r1 := f7.ib 1 rfl
   replace r9 := f7.iz 9 rfl
   clear f7
   replace r0 : boxR 58 [cv.v, .int .i64 ((i + 2 : Nat) : Int)] (τ7 0) v w7 := by rw [show ((i + 2 : Nat) : Int) = ((i : Nat) : Int) + 2 from by omega]; exact r0
   show Code.wp _ _ _ a7 w7
   refine wp_seq ?_
   refine region_St (bf := [0, 1, 3]) (sp := [det _ 55 _, box _ _ 1 4 [(.int .i64 (10)), (.string ((⟨#[]⟩ : ByteArray))), (.bool (false)), (.slice none 0 0), (.int .i64 (0)), (.int .i64 (0)), (.bool (false)), (.slice none 0 0)], det _ 5 _]) [ib r0, ib r1, Ini.any _, Ini.any _, Ini.any _, Ini.any _, Ini.any _, Ini.any _, Ini.any _, iz r9] mixed st7 (by kernel_rfl) ⟨r0, r1, trivial, trivial, trivial, trivial, trivial, trivial, trivial, r9, trivial⟩
    ⟨Ob.d fun c => r_build (cells := #[(.int .i64 (10)), (.string ((⟨#[]⟩ : ByteArray))), (.bool (false)), (.slice none 0 0), (.int .i64 (0)), (.int .i64 (0)), (.bool (false)), (.slice none 0 0)]) rfl Try.underlying25 Try.zeroValue25 (pl := #[(0, 1), (1, 1), (2, 1), (3, 1), (4, 1), (5, 1), (6, 1), (7, 1)]) (fun w_ => by simp [Try.sizeOf22, Try.sizeOf23, Try.sizeOf3, Try.sizeOf4, Try.sizeOf9]) (fill1 rfl rfl),
    Ob.storeBox (off := 0) (v := (.agg #[(.int .i64 (10)), (.string ((⟨#[]⟩ : ByteArray))), (.bool (false)), (.slice none 0 0), (.int .i64 (0)), (.int .i64 (0)), (.bool (false)), (.slice none 0 0)])) rfl rfl rfl rfl Try.sizeOf25 (Nat.le_of_ble_eq_true rfl) (by simp [Value.cells, Value.oneCell', Sv.v]) rfl (fun _ _ _ _ c => ⟨c.bp 1 rfl e4, c.ad ((c.p e4).trans r1.ptr) e4 rfl, (c.n 0 rfl)⟩),
    Ob.d fun c => r_assign rfl rfl, trivial⟩ ?_
   intro a8 w8 τ8 st8 f8
   obtain ⟨e0, e1, e4, -⟩ := f8.ks [(0, _), (1, _), (4, _)] ⟨e0, e1, e4, trivial⟩
   have e5 : get a8 5 = (.int .i64 (0)) := f8.v 2 rfl
   replace r0 := f8.ib 0 rfl
   replace r1 : boxR 25 [(.int .i64 (10)), (.string ((⟨#[]⟩ : ByteArray))), (.bool (false)), (.slice none 0 0), (.int .i64 (0)), (.int .i64 (0)), (.bool (false)), (.slice none 0 0)] (τ8 1) b1x4 w8 := f8.rb 1 e4 rfl
   replace r9 := f8.iz 9 rfl
   clear f8
   show Code.wp _ _ _ a8 w8
   refine wp_ret ?_
   repeat (first | with_reducible refine then_ret ?_ | with_reducible refine block_ret ?_)
   refine ret2c (fn := Try.f48) rfl st8.defers e4 e5 r1 Try.isAgg25 Try.sizeOf25 rfl ?_
   have he_ : termF sub cs d i = ((leafT 10 (⟨#[]⟩ : ByteArray) false 0 0 false), 0, i + 2) := by unfold termF; (repeat (first | rw [if_neg (by first | assumption | (simp only [Bool.not_eq_true]; assumption) | (simp only [Bool.not_eq_false]; assumption) | (exact fun h_ => h_ (by assumption)) | omega)] | rw [if_pos (by first | assumption | omega)])); (try rfl)
   rw [he_]
   exact ⟨(leafT 10 (⟨#[]⟩ : ByteArray) false 0 0 false), rfl, st8.extIn, r0.foot, (leafTr _ _ _ _ _ _ _ _), rfl⟩
 have hd3 := hc3; try simp only [Bool.and_eq_false_iff, decide_eq_false_iff_not, Int.not_lt] at hd3
 refine wp_seq ?_
 refine region_St (bf := [0, 1, 3, 7, 15, 31, 63, 127, 255, 15, 527, 1551, 3599, 7695, 16383, 32767, 65535, 131071, 262143, 524287, 1048575, 131071, 2228223, 6422527, 14811135, 31588351, 67108863, 134217727, 268435455, 536870911, 1073741823]) (sp := [det _ 57 _, det _ 58 _, det _ 59 _, det _ 60 _, gdet _ 61 _ _, gdet _ 62 _ _, gdet _ 63 _ _, gdet _ 64 _ _, gdet _ 65 _ _, gdet _ 66 _ _, gdet _ 67 _ _, gdet _ 68 _ _, gdet _ 69 _ _, gdet _ 70 _ _, gdet _ 71 _ _, det _ 72 _, det _ 73 _, gdet _ 74 _ _, gdet _ 75 _ _, gdet _ 76 _ _, gdet _ 77 _ _, gdet _ 78 _ _, gdet _ 79 _ _, gdet _ 80 _ _, gdet _ 81 _ _, gdet _ 82 _ _, gdet _ 83 _ _, gdet _ 84 _ _, gdet _ 85 _ _, det _ 86 _, det _ 56 _]) [ib r0, ib r1, Ini.any _, Ini.any _, Ini.any _, Ini.any _, Ini.any _, Ini.any _, Ini.any _, iz r9] mixed st6 (by kernel_rfl) ⟨r0, r1, trivial, trivial, trivial, trivial, trivial, trivial, trivial, r9, trivial⟩
  ⟨Ob.d fun c => r_move rfl (c.p e0),
  Ob.c fun c => ⟨_, _, (e_call1 rfl rfl Try.call47 (c.n 0 rfl)), see_c v cv cs i _ (rdr (c.ib 0 rfl) (c.iz 9 rfl) (fun g_ h_ hz_ => hz_.2 _ h_))⟩,
  Ob.d fun c => r_seql rfl (c.n 1 rfl) rfl,
  Ob.d fun c => r_move rfl (c.n 2 rfl),
  Ob.g 3 true rfl fun c hpc => r_move rfl (c.p e0),
  Ob.g 3 true rfl fun c hpc => r_nilCheck rfl (c.m 4 rfl hpc) r0.ptr,
  Ob.g 3 true rfl fun c hpc => r_fieldAddr rfl Try.underlying58 rfl rfl Try.sizeOf3 ((c.m 5 rfl hpc).trans r0.ptr),
  Ob.g 3 true rfl fun c hpc => r_load1 rfl Try.isAgg3 (c.m 6 rfl hpc) ((c.ib 0 rfl).cell (j := 1) rfl),
  Ob.g 3 true rfl fun c hpc => r_add rfl (c.m 7 rfl hpc) rfl (by have hq0 := hpc; omega),
  Ob.g 3 true rfl fun c hpc => r_move rfl (c.p e0),
  Ob.g 3 true rfl fun c hpc => r_nilCheck rfl (c.m 9 rfl hpc) r0.ptr,
  Ob.g 3 true rfl fun c hpc => r_fieldAddr rfl Try.underlying58 rfl rfl Try.sizeOf32 ((c.m 10 rfl hpc).trans r0.ptr),
  Ob.g 3 true rfl fun c hpc => r_load1 rfl Try.isAgg32 (c.m 11 rfl hpc) ((c.ib 0 rfl).cell (j := 0) rfl),
  Ob.g 3 true rfl fun c hpc => r_len rfl Try.underlying32 (c.m 12 rfl hpc) (r9).1.sl,
  Ob.g 3 true rfl fun c hpc => r_lss rfl (c.m 8 rfl hpc) (c.m 13 rfl hpc),
  Ob.d fun c => r_and rfl (c.n 3 rfl) (fun h => c.m 14 rfl h),
  Ob.d fun c => r_move rfl (c.n 15 rfl),
  Ob.g 16 true rfl fun c hpc => r_move rfl (c.p e0),
  Ob.g 16 true rfl fun c hpc => r_nilCheck rfl (c.m 17 rfl hpc) r0.ptr,
  Ob.g 16 true rfl fun c hpc => r_fieldAddr rfl Try.underlying58 rfl rfl Try.sizeOf32 ((c.m 18 rfl hpc).trans r0.ptr),
  Ob.g 16 true rfl fun c hpc => r_load1 rfl Try.isAgg32 (c.m 19 rfl hpc) ((c.ib 0 rfl).cell (j := 0) rfl),
  Ob.g 16 true rfl fun c hpc => r_move rfl (c.p e0),
  Ob.g 16 true rfl fun c hpc => r_nilCheck rfl (c.m 21 rfl hpc) r0.ptr,
  Ob.g 16 true rfl fun c hpc => r_fieldAddr rfl Try.underlying58 rfl rfl Try.sizeOf3 ((c.m 22 rfl hpc).trans r0.ptr),
  Ob.g 16 true rfl fun c hpc => r_load1 rfl Try.isAgg3 (c.m 23 rfl hpc) ((c.ib 0 rfl).cell (j := 1) rfl),
  Ob.g 16 true rfl fun c hpc => r_add rfl (c.m 24 rfl hpc) rfl (by have hq0 := hpc; (try simp only [Bool.and_eq_true, decide_eq_true_eq] at hq0); omega),
  Ob.g 16 true rfl fun c hpc => r_indexAddr rfl Try.underlying32 Try.sizeOf9 (c.m 20 rfl hpc) (r9).1.sl (c.m 25 rfl hpc) (by have hq0 := hpc; (try simp only [Bool.and_eq_true, decide_eq_true_eq] at hq0); omega) (by have hq0 := hpc; (try simp only [Bool.and_eq_true, decide_eq_true_eq] at hq0); omega),
  Ob.g 16 true rfl fun c hpc => r_load1 rfl Try.isAgg9 (c.m 26 rfl hpc) ((((c.iz 9 rfl)).1).elem (j := 0) (nth_some (i := ((i : Nat) : Int) + 1) (by have hq0 := hpc; (try simp only [Bool.and_eq_true, decide_eq_true_eq] at hq0); omega) (by have hq0 := hpc; (try simp only [Bool.and_eq_true, decide_eq_true_eq] at hq0); omega)) rfl),
  Ob.g 16 true rfl fun c hpc => r_seql rfl (c.m 27 rfl hpc) rfl,
  Ob.d fun c => r_and rfl (c.n 16 rfl) (fun h => c.m 28 rfl h),
  Ob.d fun c => r_assign rfl (c.n 29 rfl), trivial⟩ ?_
 intro a9 w9 τ9 st9 f9
 obtain ⟨e0, e1, e4, e5, -⟩ := f9.ks [(0, _), (1, _), (4, _), (5, _)] ⟨e0, e1, e4, e5, trivial⟩
 have e56 : get a9 56 = (.bool (((eqT (seeF cs i) (⟨#[92]⟩ : ByteArray)) && (decide (((i : Nat) : Int) + 1 < (cs.length : Int)))) && (eqT (nth cs (((i : Nat) : Int) + 1)) (⟨#[66]⟩ : ByteArray)))) := f9.v 30 rfl
 replace r0 := f9.ib 0 rfl
 replace r1 := f9.ib 1 rfl
 replace r9 := f9.iz 9 rfl
 clear f9
 show Code.wp _ _ _ a9 w9
 refine wp_cond_split (t := ((eqT (seeF cs i) (⟨#[92]⟩ : ByteArray)) && (decide (((i : Nat) : Int) + 1 < (cs.length : Int)))) && (eqT (nth cs (((i : Nat) : Int) + 1)) (⟨#[66]⟩ : ByteArray))) e56 (fun hc4 => ?_) (fun hc4 => ?_)
 · have hd4 := hc4; try simp only [Bool.and_eq_true, decide_eq_true_eq] at hd4
   refine wp_seq ?_
   have hel := edge_lt (by assumption : edgeB cs i (⟨#[66]⟩ : ByteArray) = true)
   refine region_St (bf := [0, 0, 2, 6, 14, 30, 63, 127, 255]) (sp := [det _ 87 _, det _ 88 _, det _ 89 _, det _ 90 _, det _ 91 _, det _ 92 _, det _ 93 _, det _ 94 _, box _ _ 0 0 [cv.v, (.int .i64 (((i : Nat) : Int) + 2))]]) [ib r0, ib r1, Ini.any _, Ini.any _, Ini.any _, Ini.any _, Ini.any _, Ini.any _, Ini.any _, iz r9] mixed st9 (by kernel_rfl) ⟨r0, r1, trivial, trivial, trivial, trivial, trivial, trivial, trivial, r9, trivial⟩
    ⟨Ob.d fun c => r_move rfl (c.p e0),
    Ob.d fun c => r_move rfl (c.p e0),
    Ob.d fun c => r_nilCheck rfl (c.n 1 rfl) r0.ptr,
    Ob.d fun c => r_fieldAddr rfl Try.underlying58 rfl rfl Try.sizeOf3 ((c.n 2 rfl).trans r0.ptr),
    Ob.d fun c => r_load1 rfl Try.isAgg3 (c.n 3 rfl) ((c.ib 0 rfl).cell (j := 1) rfl),
    Ob.d fun c => r_add rfl (c.n 4 rfl) rfl (by omega),
    Ob.d fun c => r_nilCheck rfl (c.n 0 rfl) r0.ptr,
    Ob.d fun c => r_fieldAddr rfl Try.underlying58 rfl rfl Try.sizeOf3 ((c.n 6 rfl).trans r0.ptr),
    Ob.storeBox (off := 1) (v := (.int .i64 (((i : Nat) : Int) + 2))) rfl rfl rfl rfl Try.sizeOf3 (Nat.le_of_ble_eq_true rfl) (by simp [Value.cells, Value.oneCell', Sv.v]) rfl (fun _ _ _ _ c => ⟨c.bp 0 rfl e0, c.ad (c.n 7 rfl) e0 rfl, (c.n 5 rfl)⟩), trivial⟩ ?_
   intro a10 w10 τ10 st10 f10
   obtain ⟨e0, e1, e4, e5, -⟩ := f10.ks [(0, _), (1, _), (4, _), (5, _)] ⟨e0, e1, e4, e5, trivial⟩
   replace r0 : boxR 58 [cv.v, (.int .i64 (((i : Nat) : Int) + 2))] (τ10 0) v w10 := f10.rb 8 e0 rfl
   replace r1 := f10.ib 1 rfl
   replace r9 := f10.iz 9 rfl
   clear f10
   replace r0 : boxR 58 [cv.v, .int .i64 ((i + 2 : Nat) : Int)] (τ10 0) v w10 := by rw [show ((i + 2 : Nat) : Int) = ((i : Nat) : Int) + 2 from by omega]; exact r0
   show Code.wp _ _ _ a10 w10
   refine wp_seq ?_
   refine region_St (bf := [0, 1, 3]) (sp := [det _ 95 _, box _ _ 1 4 [(.int .i64 (11)), (.string ((⟨#[]⟩ : ByteArray))), (.bool (false)), (.slice none 0 0), (.int .i64 (0)), (.int .i64 (0)), (.bool (false)), (.slice none 0 0)], det _ 5 _]) [ib r0, ib r1, Ini.any _, Ini.any _, Ini.any _, Ini.any _, Ini.any _, Ini.any _, Ini.any _, iz r9] mixed st10 (by kernel_rfl) ⟨r0, r1, trivial, trivial, trivial, trivial, trivial, trivial, trivial, r9, trivial⟩
    ⟨Ob.d fun c => r_build (cells := #[(.int .i64 (11)), (.string ((⟨#[]⟩ : ByteArray))), (.bool (false)), (.slice none 0 0), (.int .i64 (0)), (.int .i64 (0)), (.bool (false)), (.slice none 0 0)]) rfl Try.underlying25 Try.zeroValue25 (pl := #[(0, 1), (1, 1), (2, 1), (3, 1), (4, 1), (5, 1), (6, 1), (7, 1)]) (fun w_ => by simp [Try.sizeOf22, Try.sizeOf23, Try.sizeOf3, Try.sizeOf4, Try.sizeOf9]) (fill1 rfl rfl),
    Ob.storeBox (off := 0) (v := (.agg #[(.int .i64 (11)), (.string ((⟨#[]⟩ : ByteArray))), (.bool (false)), (.slice none 0 0), (.int .i64 (0)), (.int .i64 (0)), (.bool (false)), (.slice none 0 0)])) rfl rfl rfl rfl Try.sizeOf25 (Nat.le_of_ble_eq_true rfl) (by simp [Value.cells, Value.oneCell', Sv.v]) rfl (fun _ _ _ _ c => ⟨c.bp 1 rfl e4, c.ad ((c.p e4).trans r1.ptr) e4 rfl, (c.n 0 rfl)⟩),
    Ob.d fun c => r_assign rfl rfl, trivial⟩ ?_
   intro a11 w11 τ11 st11 f11
   obtain ⟨e0, e1, e4, -⟩ := f11.ks [(0, _), (1, _), (4, _)] ⟨e0, e1, e4, trivial⟩
   have e5 : get a11 5 = (.int .i64 (0)) := f11.v 2 rfl
   replace r0 := f11.ib 0 rfl
   replace r1 : boxR 25 [(.int .i64 (11)), (.string ((⟨#[]⟩ : ByteArray))), (.bool (false)), (.slice none 0 0), (.int .i64 (0)), (.int .i64 (0)), (.bool (false)), (.slice none 0 0)] (τ11 1) b1x4 w11 := f11.rb 1 e4 rfl
   replace r9 := f11.iz 9 rfl
   clear f11
   show Code.wp _ _ _ a11 w11
   refine wp_ret ?_
   repeat (first | with_reducible refine then_ret ?_ | with_reducible refine block_ret ?_)
   refine ret2c (fn := Try.f48) rfl st11.defers e4 e5 r1 Try.isAgg25 Try.sizeOf25 rfl ?_
   have he_ : termF sub cs d i = ((leafT 11 (⟨#[]⟩ : ByteArray) false 0 0 false), 0, i + 2) := by unfold termF; (repeat (first | rw [if_neg (by first | assumption | (simp only [Bool.not_eq_true]; assumption) | (simp only [Bool.not_eq_false]; assumption) | (exact fun h_ => h_ (by assumption)) | omega)] | rw [if_pos (by first | assumption | omega)])); (try rfl)
   rw [he_]
   exact ⟨(leafT 11 (⟨#[]⟩ : ByteArray) false 0 0 false), rfl, st11.extIn, r0.foot, (leafTr _ _ _ _ _ _ _ _), rfl⟩
 have hd4 := hc4; try simp only [Bool.and_eq_false_iff, decide_eq_false_iff_not, Int.not_lt] at hd4
 refine wp_skip ?_
 show _
 show Code.wp _ _ _ a9 w9
 refine wp_seq ?_
 refine region_of_ops ?_
 refine ops_cut 3 (by kernel_rfl) ?_
 refine ops_St (bf := [0, 0, 3]) (sp := [det _ 97 _, det _ 98 _, zbox 58 _ 0 99 (v) (fun b : Tr => [cv.v, .int .i64 (((atomF sub cs d i).2.2 : Nat) : Int)]) (fun b : Tr => .tuple #[b.v, .int .i64 (atomF sub cs d i).2.1]) (fun b : Tr => er b = (atomF sub cs d i).1) (fun b : Tr => zTr (Gn none' w) b)]) [ib r0, ib r1, Ini.any _, Ini.any _, Ini.any _, Ini.any _, Ini.any _, Ini.any _, Ini.any _, iz r9] st9 (by kernel_rfl) ⟨r0, r1, trivial, trivial, trivial, trivial, trivial, trivial, trivial, r9, trivial⟩
  ⟨Ob.d fun c => r_move rfl (c.p e0),
  Ob.d fun c => r_move rfl (c.p e1),
  Ob.zb (cells := fun b : Tr => [cv.v, .int .i64 (((atomF sub cs d i).2.2 : Nat) : Int)]) (f := fun b : Tr => .tuple #[b.v, .int .i64 (atomF sub cs d i).2.1]) (Ψ := fun b : Tr => er b = (atomF sub cs d i).1) (Φ := fun b : Tr => zTr (Gn none' w) b) fun {_ a_ _ _} c => ⟨_, _, (e_call2 rfl rfl Try.call55 (c.n 0 rfl) (c.n 1 rfl)), (atom_c sub d v cv cs i _ (rdr (c.ib 0 rfl) (c.iz 9 rfl) (fun g_ h_ hz_ => hz_.2 _ h_)) hL (by omega) hd hsub hsb).mono (fun e w' ⟨b_, he_, hx_, hb_, ht_, hq_⟩ => ⟨b_, he_, (c.ib 0 rfl).ext hx_, hb_.back (c.ib 0 rfl), hq_, c.tns st9 hx_.size ht_⟩)⟩, trivial⟩ ?_
 intro a12 w12 τ12 st12 f12
 obtain ⟨e0, e4, e5, -⟩ := f12.ks [(0, _), (4, _), (5, _)] ⟨e0, e4, e5, trivial⟩
 obtain ⟨t1_, e99, hro12, hqt1_, hz12⟩ := f12.zb 2 rfl
 have e99 : get a12 99 = (.tuple #[(.agg #[(.int .i64 (t1_.k)), (.string (t1_.ch)), (.bool (t1_.ng)), t1_.rv.v, (.int .i64 (t1_.mn)), (.int .i64 (t1_.mx)), (.bool (t1_.lz)), t1_.kv.v]), (.int .i64 ((atomF sub cs d i).2.1))]) := e99
 replace r0 : boxR 58 [cv.v, (.int .i64 ((((atomF sub cs d i).2.2 : Nat) : Int)))] (τ12 0) v w12 := hro12
 replace r1 := f12.ib 1 rfl
 replace r9 := f12.iz 9 rfl
 have r2 : Fz (zTr (Gn none' w) t1_) τ12 w12 := hz12
 clear f12
 refine only_mk ?_
 refine ops_St (bf := [0, 1, 3, 7, 15, 31]) (sp := [det _ 96 _, det _ 100 _, det _ 101 _, box _ _ 3 6 [(.int .i64 (0)), (.string ((⟨#[]⟩ : ByteArray))), (.bool (false)), (.slice none 0 0), (.int .i64 (0)), (.int .i64 (0)), (.bool (false)), (.slice none 0 0)], box _ _ 3 6 [(.int .i64 (t1_.k)), (.string (t1_.ch)), (.bool (t1_.ng)), t1_.rv.v, (.int .i64 (t1_.mn)), (.int .i64 (t1_.mx)), (.bool (t1_.lz)), t1_.kv.v], det _ 7 _]) [ib r0, ib r1, iz r2, Ini.any _, Ini.any _, Ini.any _, Ini.any _, Ini.any _, Ini.any _, iz r9] st12 (by kernel_rfl) ⟨r0, r1, r2, trivial, trivial, trivial, trivial, trivial, trivial, r9, trivial⟩
  ⟨Ob.d fun c => r_move rfl (c.p e99),
  Ob.d fun c => r_extract rfl (c.n 0 rfl) rfl,
  Ob.d fun c => r_extract rfl (c.n 0 rfl) rfl,
  Ob.alloc rfl rfl rfl rfl Try.zeroValue25 rfl,
  Ob.storeBox (off := 0) (v := (.agg #[(.int .i64 (t1_.k)), (.string (t1_.ch)), (.bool (t1_.ng)), t1_.rv.v, (.int .i64 (t1_.mn)), (.int .i64 (t1_.mx)), (.bool (t1_.lz)), t1_.kv.v])) rfl rfl rfl rfl Try.sizeOf25 (Nat.le_of_ble_eq_true rfl) (by simp [Value.cells, Value.oneCell', Sv.v]) rfl (fun _ _ _ _ c => ⟨c.rb 3 rfl, (c.rb 3 rfl).ptr, (c.n 1 rfl)⟩),
  Ob.d fun c => r_assign rfl (c.n 2 rfl), trivial⟩ ?_
 intro a13 w13 τ13 st13 f13
 obtain ⟨b13x6, e6⟩ : ∃ b, get a13 6 = b := ⟨_, rfl⟩
 obtain ⟨e0, e4, e5, -⟩ := f13.ks [(0, _), (4, _), (5, _)] ⟨e0, e4, e5, trivial⟩
 have e7 : get a13 7 = (.int .i64 ((atomF sub cs d i).2.1)) := f13.v 5 rfl
 replace r0 := f13.ib 0 rfl
 replace r1 := f13.ib 1 rfl
 replace r2 := f13.iz 2 rfl
 have r3 : boxR 25 [(.int .i64 (t1_.k)), (.string (t1_.ch)), (.bool (t1_.ng)), t1_.rv.v, (.int .i64 (t1_.mn)), (.int .i64 (t1_.mx)), (.bool (t1_.lz)), t1_.kv.v] (τ13 3) b13x6 w13 := f13.rb 4 e6 rfl
 replace r9 := f13.iz 9 rfl
 clear f13
 show Code.wp _ _ _ a13 w13
 refine wp_seq ?_
 refine wp_seq ?_
 refine region_St (bf := [0, 1]) (sp := [det _ 102 _, det _ 103 _]) [ib r0, ib r1, iz r2, ib r3, Ini.any _, Ini.any _, Ini.any _, Ini.any _, Ini.any _, iz r9] mixed st13 (by kernel_rfl) ⟨r0, r1, r2, r3, trivial, trivial, trivial, trivial, trivial, r9, trivial⟩
  ⟨Ob.d fun c => r_move rfl (c.p e7),
  Ob.d fun c => r_neq rfl (c.n 0 rfl) rfl, trivial⟩ ?_
 intro a14 w14 τ14 st14 f14
 obtain ⟨e0, e4, e5, e6, e7, -⟩ := f14.ks [(0, _), (4, _), (5, _), (6, _), (7, _)] ⟨e0, e4, e5, e6, e7, trivial⟩
 have e103 : get a14 103 = (.bool (!decide ((atomF sub cs d i).2.1 = 0))) := f14.v 1 rfl
 replace r0 := f14.ib 0 rfl
 replace r1 := f14.ib 1 rfl
 replace r2 := f14.iz 2 rfl
 replace r3 := f14.ib 3 rfl
 replace r9 := f14.iz 9 rfl
 clear f14
 show Code.wp _ _ _ a14 w14
 refine wp_cond_split (t := !decide ((atomF sub cs d i).2.1 = 0)) e103 (fun hc5 => ?_) (fun hc5 => ?_)
 · try simp only [Bool.not_eq_true', Bool.not_eq_false', decide_eq_true_eq, decide_eq_false_iff_not] at hc5
   refine wp_seq ?_
   refine region_St (bf := [0, 0, 1, 7]) (sp := [det _ 104 _, det _ 105 _, box _ _ 1 4 [(.int .i64 (0)), (.string ((⟨#[]⟩ : ByteArray))), (.bool (false)), (.slice none 0 0), (.int .i64 (0)), (.int .i64 (0)), (.bool (false)), (.slice none 0 0)], det _ 5 _]) [ib r0, ib r1, iz r2, ib r3, Ini.any _, Ini.any _, Ini.any _, Ini.any _, Ini.any _, iz r9] mixed st14 (by kernel_rfl) ⟨r0, r1, r2, r3, trivial, trivial, trivial, trivial, trivial, r9, trivial⟩
    ⟨Ob.d fun c => r_build (cells := #[(.int .i64 (0)), (.string ((⟨#[]⟩ : ByteArray))), (.bool (false)), (.slice none 0 0), (.int .i64 (0)), (.int .i64 (0)), (.bool (false)), (.slice none 0 0)]) rfl Try.underlying25 Try.zeroValue25 (pl := #[(0, 1), (1, 1), (2, 1), (3, 1), (4, 1), (5, 1), (6, 1), (7, 1)]) (fun w_ => by simp [Try.sizeOf22, Try.sizeOf23, Try.sizeOf3, Try.sizeOf4, Try.sizeOf9]) (by simp only [List.map_toArray, List.map_nil]; rfl),
    Ob.d fun c => r_move rfl (c.p e7),
    Ob.storeBox (off := 0) (v := (.agg #[(.int .i64 (0)), (.string ((⟨#[]⟩ : ByteArray))), (.bool (false)), (.slice none 0 0), (.int .i64 (0)), (.int .i64 (0)), (.bool (false)), (.slice none 0 0)])) rfl rfl rfl rfl Try.sizeOf25 (Nat.le_of_ble_eq_true rfl) (by simp [Value.cells, Value.oneCell', Sv.v]) rfl (fun _ _ _ _ c => ⟨c.bp 1 rfl e4, c.ad ((c.p e4).trans r1.ptr) e4 rfl, (c.n 0 rfl)⟩),
    Ob.d fun c => r_assign rfl (c.n 1 rfl), trivial⟩ ?_
   intro a15 w15 τ15 st15 f15
   obtain ⟨e0, e4, e6, -⟩ := f15.ks [(0, _), (4, _), (6, _)] ⟨e0, e4, e6, trivial⟩
   have e5 : get a15 5 = (.int .i64 ((atomF sub cs d i).2.1)) := f15.v 3 rfl
   replace r0 := f15.ib 0 rfl
   replace r1 : boxR 25 [(.int .i64 (0)), (.string ((⟨#[]⟩ : ByteArray))), (.bool (false)), (.slice none 0 0), (.int .i64 (0)), (.int .i64 (0)), (.bool (false)), (.slice none 0 0)] (τ15 1) b1x4 w15 := f15.rb 2 e4 rfl
   replace r2 := f15.iz 2 rfl
   replace r3 := f15.ib 3 rfl
   replace r9 := f15.iz 9 rfl
   clear f15
   show Code.wp _ _ _ a15 w15
   refine wp_ret ?_
   repeat (first | with_reducible refine then_ret ?_ | with_reducible refine block_ret ?_)
   refine ret2c (fn := Try.f48) rfl st15.defers e4 e5 r1 Try.isAgg25 Try.sizeOf25 rfl ?_
   have he_ : termF sub cs d i = ((leafT 0 (⟨#[]⟩ : ByteArray) false 0 0 false), (atomF sub cs d i).2.1, (atomF sub cs d i).2.2) := by unfold termF; (repeat (first | rw [if_neg (by first | assumption | (simp only [Bool.not_eq_true]; assumption) | (simp only [Bool.not_eq_false]; assumption) | (exact fun h_ => h_ (by assumption)) | omega)] | rw [if_pos (by first | assumption | omega)])); (try rfl)
   rw [he_]
   exact ⟨(leafT 0 (⟨#[]⟩ : ByteArray) false 0 0 false), rfl, st15.extIn, r0.foot, (leafTr _ _ _ _ _ _ _ _), rfl⟩
 try simp only [Bool.not_eq_true', Bool.not_eq_false', decide_eq_true_eq, decide_eq_false_iff_not] at hc5
 refine wp_skip ?_
 show Code.wp _ _ _ a14 w14
 refine wp_seq ?_
 have hal := atom_le hsb (by assumption : (atomF sub cs d i).2.1 = 0)
 refine region_of_ops ?_
 refine ops_cut 3 (by kernel_rfl) ?_
 refine ops_St (bf := [0, 0, 3]) (sp := [det _ 106 _, det _ 107 _, zbox 58 _ 0 108 (v) (fun b : Tr => [cv.v, .int .i64 (((timesF cs (er t1_) ((atomF sub cs d i).2.2)).2.2 : Nat) : Int)]) (fun b : Tr => .tuple #[b.v, .int .i64 (timesF cs (er t1_) ((atomF sub cs d i).2.2)).2.1]) (fun b : Tr => er b = (timesF cs (er t1_) ((atomF sub cs d i).2.2)).1) (fun b : Tr => zTr (Gn none' w) b)]) [ib r0, ib r1, iz r2, ib r3, Ini.any _, Ini.any _, Ini.any _, Ini.any _, Ini.any _, iz r9] st14 (by kernel_rfl) ⟨r0, r1, r2, r3, trivial, trivial, trivial, trivial, trivial, r9, trivial⟩
  ⟨Ob.d fun c => r_move rfl (c.p e0),
  Ob.d fun c => r_loadN (vs := [(.int .i64 (t1_.k)), (.string (t1_.ch)), (.bool (t1_.ng)), t1_.rv.v, (.int .i64 (t1_.mn)), (.int .i64 (t1_.mx)), (.bool (t1_.lz)), t1_.kv.v]) rfl Try.isAgg25 Try.sizeOf25 ((c.p e6).trans r3.ptr) rfl (fun _ _ hj => (c.ib 3 rfl).cell hj),
  Ob.zb (cells := fun b : Tr => [cv.v, .int .i64 (((timesF cs (er t1_) ((atomF sub cs d i).2.2)).2.2 : Nat) : Int)]) (f := fun b : Tr => .tuple #[b.v, .int .i64 (timesF cs (er t1_) ((atomF sub cs d i).2.2)).2.1]) (Ψ := fun b : Tr => er b = (timesF cs (er t1_) ((atomF sub cs d i).2.2)).1) (Φ := fun b : Tr => zTr (Gn none' w) b) fun {_ a_ _ _} c => ⟨_, _, (e_call2 rfl rfl Try.call56 (c.n 0 rfl) (c.n 1 rfl)), (times_c _ v cv cs ((atomF sub cs d i).2.2) t1_ _ (rdr (c.ib 0 rfl) (c.iz 9 rfl) (fun g_ h_ hz_ => hz_.2 _ h_)) hL (by omega) (c.iz 2 rfl) (fun g_ h_ hp_ => h_.1.2 _ ((c.ib 0 rfl).own hp_))).mono (fun e w' ⟨b_, he_, hx_, hb_, ht_, hq_⟩ => ⟨b_, he_, (c.ib 0 rfl).ext hx_, hb_.back (c.ib 0 rfl), hq_, c.tzs st14 hx_.size ht_⟩)⟩, trivial⟩ ?_
 intro a16 w16 τ16 st16 f16
 obtain ⟨e0, e4, e5, -⟩ := f16.ks [(0, _), (4, _), (5, _)] ⟨e0, e4, e5, trivial⟩
 obtain ⟨t2_, e108, hro16, hqt2_, hz16⟩ := f16.zb 2 rfl
 have e108 : get a16 108 = (.tuple #[(.agg #[(.int .i64 (t2_.k)), (.string (t2_.ch)), (.bool (t2_.ng)), t2_.rv.v, (.int .i64 (t2_.mn)), (.int .i64 (t2_.mx)), (.bool (t2_.lz)), t2_.kv.v]), (.int .i64 ((timesF cs (er t1_) ((atomF sub cs d i).2.2)).2.1))]) := e108
 replace r0 : boxR 58 [cv.v, (.int .i64 ((((timesF cs (er t1_) ((atomF sub cs d i).2.2)).2.2 : Nat) : Int)))] (τ16 0) v w16 := hro16
 replace r1 := f16.ib 1 rfl
 replace r2 := f16.iz 2 rfl
 replace r9 := f16.iz 9 rfl
 have r3 : Fz (zTr (Gn none' w) t2_) τ16 w16 := hz16
 clear f16
 refine only_mk ?_
 refine ops_St (bf := [0, 1, 3, 7]) (sp := [det _ 109 _, det _ 110 _, box _ _ 1 4 [(.int .i64 (t2_.k)), (.string (t2_.ch)), (.bool (t2_.ng)), t2_.rv.v, (.int .i64 (t2_.mn)), (.int .i64 (t2_.mx)), (.bool (t2_.lz)), t2_.kv.v], det _ 5 _]) [ib r0, ib r1, iz r2, iz r3, Ini.any _, Ini.any _, Ini.any _, Ini.any _, Ini.any _, iz r9] st16 (by kernel_rfl) ⟨r0, r1, r2, r3, trivial, trivial, trivial, trivial, trivial, r9, trivial⟩
  ⟨Ob.d fun c => r_extract rfl (c.p e108) rfl,
  Ob.d fun c => r_extract rfl (c.p e108) rfl,
  Ob.storeBox (off := 0) (v := (.agg #[(.int .i64 (t2_.k)), (.string (t2_.ch)), (.bool (t2_.ng)), t2_.rv.v, (.int .i64 (t2_.mn)), (.int .i64 (t2_.mx)), (.bool (t2_.lz)), t2_.kv.v])) rfl rfl rfl rfl Try.sizeOf25 (Nat.le_of_ble_eq_true rfl) (by simp [Value.cells, Value.oneCell', Sv.v]) rfl (fun _ _ _ _ c => ⟨c.bp 1 rfl e4, c.ad ((c.p e4).trans r1.ptr) e4 rfl, (c.n 0 rfl)⟩),
  Ob.d fun c => r_assign rfl (c.n 1 rfl), trivial⟩ ?_
 intro a17 w17 τ17 st17 f17
 obtain ⟨e0, e4, -⟩ := f17.ks [(0, _), (4, _)] ⟨e0, e4, trivial⟩
 have e5 : get a17 5 = (.int .i64 ((timesF cs (er t1_) ((atomF sub cs d i).2.2)).2.1)) := f17.v 3 rfl
 replace r0 := f17.ib 0 rfl
 replace r1 : boxR 25 [(.int .i64 (t2_.k)), (.string (t2_.ch)), (.bool (t2_.ng)), t2_.rv.v, (.int .i64 (t2_.mn)), (.int .i64 (t2_.mx)), (.bool (t2_.lz)), t2_.kv.v] (τ17 1) b1x4 w17 := f17.rb 2 e4 rfl
 replace r2 := f17.iz 2 rfl
 replace r3 := f17.iz 3 rfl
 replace r9 := f17.iz 9 rfl
 clear f17
 show Code.wp _ _ _ a17 w17
 refine wp_ret ?_
 repeat (first | with_reducible refine then_ret ?_ | with_reducible refine block_ret ?_)
 refine ret2c (fn := Try.f48) rfl st17.defers e4 e5 r1 Try.isAgg25 Try.sizeOf25 rfl ?_
 have he_ : termF sub cs d i = ((er t2_), (timesF cs (er t1_) ((atomF sub cs d i).2.2)).2.1, (timesF cs (er t1_) ((atomF sub cs d i).2.2)).2.2) := by rw [hqt2_, hqt1_]; unfold termF; (repeat (first | rw [if_neg (by first | assumption | (simp only [Bool.not_eq_true]; assumption) | (simp only [Bool.not_eq_false]; assumption) | (exact fun h_ => h_ (by assumption)) | omega)] | rw [if_pos (by first | assumption | omega)])); (try rfl)
 rw [he_]
 exact ⟨t2_, rfl, st17.extIn, r0.foot, r3.out, rfl⟩
end B
end Go.Proofs.Ytocmchlhbniloaa
